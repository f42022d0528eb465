/- Texts of one proof, one behind the other: Rep, Row, LxS, DorC, FcS, LxT, RepB, LxP, LxL, Cvt, Lx1, Str, Lx2, Lx3, Lx4, Sl, Reg. No condition. -/
import Derived.WalkKit
import Derived.WalkSpells
import Derived.WalkLawsBesides
import Derived.Deep.MidRow
import Derived.Deep.AppendLies
import Derived.Deep.Draws
import Derived.ProofKit
import Derived.OpenShut
import Derived.JoinedCond
import Derived.Deep.Slices
import Derived.Deep.Fields
import Derived.ChangeSame
import Derived.Carry
import Derived.Shelf.Strings.OnBuilder
import Derived.Shelf.Strings.Split
import Derived.Shelf.Strings.SplitShaped
import Derived.Shelf.GgClosure.StringsIndexFuncTop
import Derived.Ground.GgwProg
import Derived.Shelf.Slices.Turned
import Derived.Shelf.Slices.Equal
import Derived.Shelf.Slices.Empties2
import Derived.Shelf.LaysM
import Derived.Test.YtckcadhjpjjmjaaDoorProg
import Derived.Test.YtckcadhjpjjmjaaDoorRows
import Derived.LaidMore
import Derived.Stop.Joined
import Derived.Lay
import Derived.LaidOnce
import Derived.HandedShaped
import Derived.Shelf.Strconv.AtoiAll
import Derived.Shelf.Strings.Cut
import Derived.Shelf.Small.Wraps
import Derived.Shelf.LaysC
import Derived.Shelf.Pu.ParseUintPublic10
import Derived.Shelf.Strconv.Itoa0
import Derived.Shelf.Strconv.Itoa1
import Derived.Shelf.Strconv.Itoa2
import Derived.Shelf.Strconv.Itoa3
import Derived.Lib.ConvBytes
import Derived.Lib.AppendStr
import Derived.Laws.BytesArg
import Derived.Lib.ItoaNum
import Derived.Lib.ParseIntB
import Derived.Lib.SplitLaws
import Derived.Lib.Join
import Derived.Laws.RangeAny
import Derived.Shelf.GgClosure.StringsIndexFunc
import Derived.Test.YtckcadhjpjjmjaaDoorChecked
import Derived.Shelf.SlSorted.Search
import Derived.Orders
import Derived.Tactics
import Derived.Below
namespace Go.Proofs.YtckcadhjpjjmjaaDoor
open Go.RowKit

theorem hide {p : Prop} (h : p) : Hid p := h

/-- A byte as a cell. -/
abbrev bv (x : UInt8) : Value := .int .u8 (x.toNat : Int)

/-- How data of one type lie in cells; 'ok': the blocks on which this hangs. -/
structure Kd (α : Type) where
  sz : Nat
  K : (Nat → Prop) → World → α → List Value → Prop
  len : ∀ {ok w x cs}, K ok w x cs → cs.length = sz
  one : ∀ {ok w x cs}, K ok w x cs → ∀ u ∈ cs, u.oneCell' = true
  keep : ∀ {ok : Nat → Prop} {w w' : World} {x cs}, (∀ k, ok k → w'.heap[k]? = w.heap[k]?) → K ok w x cs → K ok w' x cs
  more : ∀ {ok ok' : Nat → Prop} {w x cs}, (∀ k, ok k → ok' k) → K ok w x cs → K ok' w x cs
  bound : ∀ {ok : Nat → Prop} {w : World} {x cs}, K ok w x cs → K (fun k => ok k ∧ k < w.heap.size) w x cs

theorem rangeAt_of_heap {w w' : World} {b o : Nat} {cs : List Value} (h : w.rangeAt b o cs) (hb : w'.heap[b]? = w.heap[b]?) : w'.rangeAt b o cs :=
  fun j v hv => (World.cell?_of_block (a := ⟨b, o + j, none⟩) hb).trans (h j v hv)
theorem new_ne (w : World) {b o : Nat} {u : Value} (h : w.cell? ⟨b, o, none⟩ = some u) : w.heap.size ≠ b := Nat.ne_of_gt (World.block_lt_of_cell? w _ h)
theorem rangeAt_lt {w : World} {b o : Nat} {cs : List Value} (h : w.rangeAt b o cs) (hn : 0 < cs.length) : b < w.heap.size :=
  World.block_lt_of_cell? w _ (h 0 _ (List.getElem?_eq_getElem hn))

namespace Kd
variable {α β : Type}

/-- The cells of a row of elements. -/
def Cells (d : Kd α) (ok : Nat → Prop) (w : World) (b o : Nat) (xs : List α) : Prop :=
  ∀ i x, xs[i]? = some x → ∃ cs, d.K ok w x cs ∧ w.rangeAt b (o + i * d.sz) cs
/-- A slice that reads as a list, nil let in. -/
def Row (d : Kd α) (ok : Nat → Prop) (w : World) (A : Option Addr) (n c : Nat) (xs : List α) : Prop :=
  xs.length = n ∧ n ≤ c ∧ c ≤ maxLen ∧ (0 < n → ∃ b o, A = some ⟨b, o, none⟩ ∧ ok b ∧ b < w.heap.size ∧ d.Cells ok w b o xs)

section
variable {d : Kd α} {ok ok' : Nat → Prop} {w w' : World} {A : Option Addr} {n c : Nat} {xs : List α}
theorem Cells.keep {b o : Nat} (h : d.Cells ok w b o xs) (hb : w'.heap[b]? = w.heap[b]?) (hk : ∀ k, ok k → w'.heap[k]? = w.heap[k]?) : d.Cells ok w' b o xs :=
  fun i x hx => let ⟨cs, h1, h2⟩ := h i x hx; ⟨cs, d.keep hk h1, rangeAt_of_heap h2 hb⟩
theorem Row.keep (h : d.Row ok w A n c xs) (hk : ∀ k, ok k → k < w.heap.size → w'.heap[k]? = w.heap[k]?) : d.Row ok w' A n c xs := by
  refine ⟨h.1, h.2.1, h.2.2.1, fun hn => ?_⟩
  obtain ⟨b, o, e, hb, hlt, hc⟩ := h.2.2.2 hn
  have hb' := hk b hb hlt
  refine ⟨b, o, e, hb, ?_, fun i x hx => ?_⟩
  · rcases Nat.lt_or_ge b w'.heap.size with h' | h'
    · exact h'
    · rw [Array.getElem?_eq_none h', Array.getElem?_eq_getElem hlt] at hb'
      cases hb'
  · obtain ⟨cs, h1, h2⟩ := hc i x hx
    exact ⟨cs, d.more (fun k hk => hk.1) (d.keep (fun k hk' => hk k hk'.1 hk'.2) (d.bound h1)), rangeAt_of_heap h2 hb'⟩
theorem Row.more (h : d.Row ok w A n c xs) (hk : ∀ k, ok k → ok' k) : d.Row ok' w A n c xs :=
  ⟨h.1, h.2.1, h.2.2.1, fun hn => let ⟨b, o, e, hb, hlt, hc⟩ := h.2.2.2 hn; ⟨b, o, e, hk b hb, hlt, fun i x hx => let ⟨cs, h1, h2⟩ := hc i x hx; ⟨cs, d.more hk h1, h2⟩⟩⟩
theorem Row.bound (h : d.Row ok w A n c xs) : d.Row (fun k => ok k ∧ k < w.heap.size) w A n c xs :=
  ⟨h.1, h.2.1, h.2.2.1, fun hn => let ⟨b, o, e, hb, hlt, hc⟩ := h.2.2.2 hn; ⟨b, o, e, ⟨hb, hlt⟩, hlt, fun i x hx => let ⟨cs, h1, h2⟩ := hc i x hx; ⟨cs, d.bound h1, h2⟩⟩⟩
theorem Row.below (h : d.Row ok w A n c xs) (hb : Below w.heap.size w w') : d.Row ok w' A n c xs := h.keep fun k _ hk => hb.block k hk
theorem Row.belowB {B : Nat} (h : d.Row (· < B) w A n c xs) (hb : Below B w w') : d.Row (· < B) w' A n c xs := h.keep fun k hk _ => hb.block k hk
theorem Row.nil (d : Kd α) (ok : Nat → Prop) (w : World) (A : Option Addr) (c : Nat) (hc : c ≤ maxLen) : d.Row ok w A 0 c [] := ⟨rfl, Nat.zero_le _, hc, fun h => absurd h (by omega)⟩
theorem Row.drewN (h : d.Row ok w A n c xs) (k : Nat) : d.Row ok (w.drewN k) A n c xs := h.keep fun _ _ _ => rfl
theorem Row.alloc (h : d.Row ok w A n c xs) (o : Obj) : d.Row ok (w.alloc o) A n c xs := h.keep fun k _ hk => Below.heap_alloc w o k hk

theorem Row.clip (h : d.Row ok w A n c xs) : d.Row ok w A n n xs := ⟨h.1, Nat.le_refl _, Nat.le_trans h.2.1 h.2.2.1, h.2.2.2⟩
theorem Row.take (h : d.Row ok w A n c xs) {k : Nat} (hk : k ≤ n) : d.Row ok w A k c (xs.take k) :=
  ⟨by rw [List.length_take, h.1]; omega, Nat.le_trans hk h.2.1, h.2.2.1, fun hn => by
    obtain ⟨b, o, e, hb, hlt, hc⟩ := h.2.2.2 (by omega)
    exact ⟨b, o, e, hb, hlt, fun i x hx => hc i x (by rw [List.getElem?_take] at hx; split at hx <;> simp_all)⟩⟩
theorem Row.drop (h : d.Row ok w A n c xs) {k : Nat} (hk : k ≤ n) : d.Row ok w (if c = k then A else A.map (·.add (k * d.sz))) (n - k) (c - k) (xs.drop k) :=
  ⟨by rw [List.length_drop, h.1], by have := h.2.1; omega, by have := h.2.2.1; omega, fun hn => by
    obtain ⟨b, o, rfl, hb, hlt, hc⟩ := h.2.2.2 (by omega)
    rw [if_neg (by have := h.2.1; omega)]
    refine ⟨b, o + k * d.sz, by simp [Addr.add_mid], hb, hlt, fun i x hx => ?_⟩
    rw [List.getElem?_drop] at hx
    obtain ⟨cs, h1, h2⟩ := hc (k + i) x hx
    refine ⟨cs, h1, ?_⟩
    rw [Nat.add_mul, ← Nat.add_assoc] at h2
    exact h2⟩

/-- x[i]: where it lies, in whatever world the address is reckoned. -/
theorem Row.index {P : Program} {T E : TypeId} (h : d.Row ok w A n c xs) (hT : P.underlying T = some (.slice E)) (hE : (P.info? E).map (·.size) = some d.sz) {i : Nat} {x : α} (hx : xs[i]? = some x) :
    ∃ b o cs, (∀ wx : World, (Instr.indexAt T (.slice A n c) (.int .i64 (i : Int))).run P wx = .ok (.pointer (some ⟨b, o, none⟩)) wx) ∧ ok b ∧ b < w.heap.size ∧ d.K ok w x cs ∧ w.rangeAt b o cs := by
  have hi : i < xs.length := (List.getElem?_eq_some_iff.1 hx).1
  have hn : 0 < n := by have := h.1; omega
  obtain ⟨b, o, e, hb, hlt, hc⟩ := h.2.2.2 hn
  subst e
  obtain ⟨cs, h1, h2⟩ := hc i x hx
  refine ⟨b, o + i * d.sz, cs, fun wx => ?_, hb, hlt, h1, h2⟩
  have hin : i < n := by have := h.1; omega
  cases hq : P.info? E with
  | none => simp [hq] at hE
  | some inf =>
    have hs : inf.size = d.sz := by simpa [hq] using hE
    simp [Instr.indexAt, asIntOf, run_underlying hT, sizeOf, typeInfo, hq, hs, hin, Addr.add]
end

/-- One cell. -/
def cell {α : Type} (enc : α → Value) (h1 : ∀ x, (enc x).oneCell' = true) (good : α → Prop) : Kd α where
  sz := 1
  K _ _ x cs := cs = [enc x] ∧ good x
  len h := by rw [h.1]; rfl
  one h u hu := by rw [h.1] at hu; simp at hu; subst hu; exact h1 _
  keep _ h := h
  more _ h := h
  bound h := h
end Kd

def kU8 : Kd UInt8 := Kd.cell bv (fun _ => rfl) (fun _ => True)
def kStr : Kd ByteArray := Kd.cell Value.string (fun _ => rfl) (fun s => s.size ≤ maxLen)
def kInt : Kd Int := Kd.cell (Value.int .i64) (fun _ => rfl) (fun n => -9223372036854775808 ≤ n ∧ n < 9223372036854775808)
def kBool : Kd Bool := Kd.cell Value.bool (fun _ => rfl) (fun _ => True)

/-- Elements and their cells. -/
def Kd.Els {α : Type} (d : Kd α) (ok : Nat → Prop) (w : World) (xs : List α) (css : List (List Value)) : Prop :=
  css.length = xs.length ∧ ∀ (i : Nat) (x : α) (cs : List Value), xs[i]? = some x → css[i]? = some cs → d.K ok w x cs
/-- A row of the call's own (from block 'base' on): it may be appended to. -/
def Kd.Own {α : Type} (d : Kd α) (ok : Nat → Prop) (base : Nat) (w : World) (E : TypeId) (v : Value) (xs : List α) : Prop :=
  ∃ css : List (List Value), d.Els (fun k => ok k ∧ some k ≠ v.ownBlock) w xs css ∧ w.ownsRow base E d.sz v xs.length css.flatten
/-- A row to which may be appended: the call's own, or one without room. -/
def Kd.App {α : Type} (d : Kd α) (ok : Nat → Prop) (base : Nat) (w : World) (E : TypeId) (v : Value) (xs : List α) : Prop :=
  d.Own ok base w E v xs ∨ ∃ A, v = .slice A xs.length xs.length ∧ d.Row (fun k => ok k ∧ k < base) w A xs.length xs.length xs
/-- What is appended. -/
def Kd.Src {α : Type} (d : Kd α) (ok : Nat → Prop) (w : World) (A : Option Addr) (m : Nat) (ys : List α) : Prop :=
  ys.length = m ∧ ∃ css : List (List Value), d.Els ok w ys css ∧ (0 < m → ∃ b o, A = some ⟨b, o, none⟩ ∧ w.rangeAt b o css.flatten)

theorem Kd.Els.lens {α : Type} {d : Kd α} {ok : Nat → Prop} {w : World} {xs : List α} {css : List (List Value)} (h : d.Els ok w xs css) : ∀ cs ∈ css, cs.length = d.sz := by
  intro cs hcs
  obtain ⟨i, hi, rfl⟩ := List.mem_iff_getElem.1 hcs
  have hx : i < xs.length := by rw [← h.1]; exact hi
  exact d.len (h.2 i _ _ (List.getElem?_eq_getElem hx) (List.getElem?_eq_getElem hi))
theorem flat_len {css : List (List Value)} {s : Nat} (h : ∀ cs ∈ css, cs.length = s) : css.flatten.length = css.length * s := by
  induction css with
  | nil => simp
  | cons c r ih =>
    have h1 := h c (by simp)
    have h2 := ih (fun x hx => h x (by simp [hx]))
    simp only [List.flatten_cons, List.length_append, List.length_cons, h1, h2, Nat.add_mul]
    omega
theorem flat_at {css : List (List Value)} {s : Nat} (h : ∀ cs ∈ css, cs.length = s) {i j : Nat} {cs : List Value} {v : Value} (hi : css[i]? = some cs) (hj : cs[j]? = some v) : css.flatten[i * s + j]? = some v := by
  induction css generalizing i with
  | nil => simp at hi
  | cons c r ih =>
    have h1 := h c (by simp)
    have hj' : j < cs.length := (List.getElem?_eq_some_iff.1 hj).1
    cases i with
    | zero =>
      simp at hi
      subst hi
      simp only [List.flatten_cons, Nat.zero_mul, Nat.zero_add]
      rw [List.getElem?_append_left hj']
      exact hj
    | succ i =>
      simp at hi
      have h2 := ih (fun x hx => h x (by simp [hx])) hi
      simp only [List.flatten_cons]
      rw [List.getElem?_append_right (by rw [h1, Nat.add_mul]; omega), h1]
      rw [show (i + 1) * s + j - s = i * s + j from by rw [Nat.add_mul]; omega]
      exact h2

section
variable {α : Type} {d : Kd α} {ok ok' : Nat → Prop} {base : Nat} {w w' : World} {E : TypeId} {v : Value} {xs ys : List α} {A : Option Addr} {n m c : Nat}
theorem Kd.Els.one {css : List (List Value)} (h : d.Els ok w xs css) : ∀ u ∈ css.flatten, u.oneCell' = true := by
  intro u hu
  obtain ⟨cs, hcs, hu⟩ := List.mem_flatten.1 hu
  obtain ⟨i, hi, rfl⟩ := List.mem_iff_getElem.1 hcs
  have hx : i < xs.length := by rw [← h.1]; exact hi
  exact d.one (h.2 i _ _ (List.getElem?_eq_getElem hx) (List.getElem?_eq_getElem hi)) u hu
theorem Kd.Els.more {css : List (List Value)} (h : d.Els ok w xs css) (hk : ∀ k, ok k → ok' k) : d.Els ok' w xs css := ⟨h.1, fun i x cs hx hc => d.more hk (h.2 i x cs hx hc)⟩
theorem Kd.Els.bound {css : List (List Value)} (h : d.Els ok w xs css) : d.Els (fun k => ok k ∧ k < w.heap.size) w xs css := ⟨h.1, fun i x cs hx hc => d.bound (h.2 i x cs hx hc)⟩
theorem Kd.Els.keep {css : List (List Value)} (h : d.Els ok w xs css) (hk : ∀ k, ok k → k < w.heap.size → w'.heap[k]? = w.heap[k]?) : d.Els ok w' xs css :=
  ⟨h.1, fun i x cs hx hc => d.more (fun _k hk => hk.1) (d.keep (fun k hk' => hk k hk'.1 hk'.2) (d.bound (h.2 i x cs hx hc)))⟩
theorem Kd.Els.append {css dss : List (List Value)} (h : d.Els ok w xs css) (k : d.Els ok w ys dss) : d.Els ok w (xs ++ ys) (css ++ dss) := by
  refine ⟨by simp [h.1, k.1], fun i x cs hx hc => ?_⟩
  rcases Nat.lt_or_ge i xs.length with hi | hi
  · rw [List.getElem?_append_left hi] at hx
    rw [List.getElem?_append_left (by rw [h.1]; exact hi)] at hc
    exact h.2 i x cs hx hc
  · rw [List.getElem?_append_right hi] at hx
    rw [List.getElem?_append_right (by rw [h.1]; exact hi), h.1] at hc
    exact k.2 _ x cs hx hc
theorem Kd.Els.nil (d : Kd α) (ok : Nat → Prop) (w : World) : d.Els ok w [] [] := ⟨rfl, fun i x cs hx => by simp at hx⟩
theorem Kd.Els.single {x : α} {cs : List Value} (h : d.K ok w x cs) : d.Els ok w [x] [cs] := ⟨rfl, fun i y ds hy hd => by
  match i, hy, hd with
  | 0, hy, hd => simp at hy hd; subst hy; subst hd; exact h
  | i + 1, hy, hd => simp at hy⟩

theorem Kd.Own.nil (d : Kd α) (ok : Nat → Prop) (base : Nat) (w : World) (E : TypeId) : d.Own ok base w E (.slice none 0 0) [] := ⟨[], .nil _ _ _, World.ownsRow_nil w base E d.sz⟩
theorem Kd.Own.form (h : d.Own ok base w E v xs) : ∃ A c, v = .slice A xs.length c := by
  obtain ⟨css, _, ho⟩ := h
  rcases ho.2 with ⟨rfl, h0⟩ | ⟨g, cap, cur, rfl, _⟩
  · rw [h0]; exact ⟨_, _, rfl⟩
  · exact ⟨_, _, rfl⟩
theorem Kd.Own.base_le (h : d.Own ok base w E v xs) : ∀ k, v.ownBlock = some k → base ≤ k ∧ k < w.heap.size := by
  obtain ⟨css, _, ho⟩ := h
  exact ho.lt
theorem Kd.Own.keep (h : d.Own ok base w E v xs) (hk : ∀ k, k < w.heap.size → (ok k ∨ some k = v.ownBlock) → w'.heap[k]? = w.heap[k]?) : d.Own ok base w' E v xs := by
  obtain ⟨css, he, ho⟩ := h
  refine ⟨css, he.keep (fun k h1 h2 => hk k h2 (.inl h1.1)), ho.1, ?_⟩
  rcases ho.2 with hn | ⟨g, cap, cur, rfl, hb, hg, r⟩
  · exact .inl hn
  · exact .inr ⟨g, cap, cur, rfl, hb, (hk g (Array.getElem?_eq_some_iff.1 hg).1 (.inr rfl)).trans hg, r⟩
theorem Kd.Own.below (h : d.Own ok base w E v xs) (hb : Below w.heap.size w w') : d.Own ok base w' E v xs := h.keep fun k hk _ => hb.block k hk
theorem Kd.Own.more (h : d.Own ok base w E v xs) (hk : ∀ k, ok k → ok' k) : d.Own ok' base w E v xs :=
  let ⟨css, he, ho⟩ := h; ⟨css, he.more fun k h1 => ⟨hk k h1.1, h1.2⟩, ho⟩
theorem Kd.Own.lower {base' : Nat} (h : d.Own ok base w E v xs) (hb : base' ≤ base) : d.Own ok base' w E v xs := by
  obtain ⟨css, he, ho⟩ := h
  refine ⟨css, he, ho.1, ?_⟩
  rcases ho.2 with hn | ⟨g, cap, cur, rfl, hg, r⟩
  · exact .inl hn
  · exact .inr ⟨g, cap, cur, rfl, Nat.le_trans hb hg, r⟩
/-- What is owned can be read. -/
theorem Kd.Own.row (h : d.Own ok base w E v xs) : ∃ A c, v = .slice A xs.length c ∧ d.Row (fun k => ok k ∨ some k = v.ownBlock) w A xs.length c xs := by
  obtain ⟨css, he, ho⟩ := h
  rcases ho.2 with ⟨rfl, h0⟩ | ⟨g, cap, cur, rfl, hb, hg, hnc, hcm, hcs, htake⟩
  · have hx : xs = [] := List.eq_nil_of_length_eq_zero h0
    subst hx
    exact ⟨none, 0, rfl, Kd.Row.nil _ _ _ _ _ (Nat.zero_le _)⟩
  · refine ⟨_, cap, rfl, rfl, hnc, hcm, fun hn => ⟨g, 0, rfl, .inr rfl, (Array.getElem?_eq_some_iff.1 hg).1, fun i x hx => ?_⟩⟩
    have hi : i < xs.length := (List.getElem?_eq_some_iff.1 hx).1
    have hc : css[i]? = some (css[i]'(by rw [he.1]; exact hi)) := List.getElem?_eq_getElem _
    have hK := he.2 i x _ hx hc
    refine ⟨_, d.more (fun k hk => .inl hk.1) hK, fun j u hu => ?_⟩
    have hf := flat_at he.lens hc hu
    have := ho.cells (g := g) rfl (i * d.sz + j) u hf
    simpa [Addr.add_lit] using this
theorem Kd.Row.src (h : d.Row ok w A n c xs) : d.Src ok w A n xs := by
  classical
  rcases Nat.eq_zero_or_pos n with h0 | h0
  · have hx : xs = [] := List.eq_nil_of_length_eq_zero (by rw [h.1]; exact h0)
    subst hx
    exact ⟨h.1, [], .nil _ _ _, fun hh => absurd hh (by omega)⟩
  · obtain ⟨b, o, e, hb, hlt, hc⟩ := h.2.2.2 h0
    have hex : ∀ i : Fin xs.length, ∃ cs, d.K ok w xs[i] cs ∧ w.rangeAt b (o + i * d.sz) cs := fun i => hc i _ (List.getElem?_eq_getElem i.2)
    refine ⟨h.1, List.ofFn (fun i => (hex i).choose), ?_, fun _ => ⟨b, o, e, ?_⟩⟩
    · refine ⟨by simp, fun i x cs hx hcs => ?_⟩
      have hi : i < xs.length := (List.getElem?_eq_some_iff.1 hx).1
      have hs := (hex ⟨i, hi⟩).choose_spec.1
      rw [List.getElem?_ofFn] at hcs
      simp only [hi, dite_true, Option.some.injEq] at hcs
      rw [← hcs]
      have : xs[i] = x := by have := List.getElem?_eq_getElem hi; rw [hx] at this; exact (Option.some.inj this).symm
      simpa [this] using hs
    · have hl : ∀ cs ∈ List.ofFn (fun i => (hex i).choose), cs.length = d.sz := by
        intro cs hcs
        obtain ⟨i, rfl⟩ := List.mem_ofFn.1 hcs
        exact d.len (hex i).choose_spec.1
      intro j u hu
      have hj : j < xs.length * d.sz := by
        have := (List.getElem?_eq_some_iff.1 hu).1
        rwa [flat_len hl, List.length_ofFn] at this
      have hs : 0 < d.sz := Nat.pos_of_ne_zero (fun e => by rw [e] at hj; omega)
      have hi : j / d.sz < xs.length := (Nat.div_lt_iff_lt_mul hs).2 hj
      have hsp := (hex ⟨j / d.sz, hi⟩).choose_spec
      have hm : j % d.sz < ((hex ⟨j / d.sz, hi⟩).choose).length := by rw [d.len hsp.1]; exact Nat.mod_lt _ hs
      have hcs : (List.ofFn (fun i => (hex i).choose))[j / d.sz]? = some (hex ⟨j / d.sz, hi⟩).choose := by
        rw [List.getElem?_ofFn]; simp [hi]
      have hf := flat_at hl hcs (List.getElem?_eq_getElem hm)
      have hjj : j / d.sz * d.sz + j % d.sz = j := Nat.div_add_mod' j d.sz
      rw [hjj] at hf
      rw [hf] at hu
      have := hsp.2 (j % d.sz) _ (List.getElem?_eq_getElem hm)
      simp only at this
      rw [Nat.add_assoc, hjj] at this
      rw [this, ← hu]
theorem Kd.Src.more (h : d.Src ok w A m ys) (hk : ∀ k, ok k → ok' k) : d.Src ok' w A m ys := let ⟨h1, css, he, hc⟩ := h; ⟨h1, css, he.more hk, hc⟩
theorem Kd.Src.keep (h : d.Src ok w A m ys) (hk : ∀ k, k < w.heap.size → w'.heap[k]? = w.heap[k]?) : d.Src ok w' A m ys := by
  obtain ⟨h1, css, he, hc⟩ := h
  refine ⟨h1, css, he.keep (fun k _ h2 => hk k h2), fun hm => ?_⟩
  obtain ⟨b, o, e, hr⟩ := hc hm
  exact ⟨b, o, e, fun j v hv => (World.cell?_of_block (a := ⟨b, o + j, none⟩) (hk b (World.block_lt_of_cell? w _ (hr j v hv)))).trans (hr j v hv)⟩

/-- append: onto a row without room. -/
theorem Kd.Row.append {P : Program} {T ty : TypeId} {z : Value} {bytes : Nat} (hT : P.underlying T = some (.slice E)) (hinfo : (P.info? E).map (fun i => (i.zero, i.size, i.bytes)) = some (some z, d.sz, bytes))
    (hz : z.cells.size = d.sz) (hsz : 0 < d.sz) (hrow : d.Row ok w A n n xs) {B : Option Addr} (hs : d.Src ok w B m ys) (cy : Nat) (h0 : 0 < m)
    (h63 : n + m ≤ maxLen) (hbytes : (n + m) * bytes ≤ 140737488355328) :
    ∃ v' w', (Builtin.append_ #[T, T] ty #[.slice A n n, .slice B m cy]).run P w = .ok v' w' ∧ d.Own ok w.heap.size w' E v' (xs ++ ys) ∧ Below w.heap.size w w' := by
  obtain ⟨i0, hi, hzz⟩ := Option.map_eq_some_iff.1 hinfo
  simp only [Prod.mk.injEq] at hzz
  obtain ⟨hz0, hz1, hz2⟩ := hzz
  have hn := hrow.1
  subst hn
  obtain ⟨hm, dss, hd, hcell⟩ := hs
  have hdl := flat_len hd.lens
  rw [hd.1, hm] at hdl
  obtain ⟨b, o, rfl, hr⟩ := hcell h0
  have hnews : ∀ j u, dss.flatten[j]? = some u → w.cell? ((⟨b, o, none⟩ : Addr).add j) = some u := fun j u hu => by
    have := hr j u hu
    rwa [Addr.add_mid]
  have h1 := hd.one
  have hne : xs.length + m = (xs ++ ys).length := by simp [hm]
  obtain ⟨_, css, hc, hcl⟩ := hrow.src
  have hcl0 := flat_len hc.lens
  rw [hc.1] at hcl0
  have hold : ∀ (A0 : Addr), A = some A0 → ∀ j u, css.flatten[j]? = some u → w.cell? (A0.add j) = some u := by
    intro A0 hA j u hu
    have hpos : 0 < xs.length := by
      rcases Nat.eq_zero_or_pos xs.length with h' | h'
      · have := (List.getElem?_eq_some_iff.1 hu).1; rw [hcl0, h'] at this; omega
      · exact h'
    obtain ⟨b', o', e, hr'⟩ := hcl hpos
    rw [hA] at e
    have e := Option.some.inj e
    subst e
    rw [Addr.add_mid]; exact hr' j u hu
  have done : ∃ v' w', (Builtin.append_ #[T, T] ty #[.slice A xs.length xs.length, .slice (some ⟨b, o, none⟩) m cy]).run P w = .ok v' w' ∧ w'.ownsRow w.heap.size E d.sz v' (xs.length + m) (css.flatten ++ dss.flatten) ∧ w.grownBy w' none := by
    cases A with
    | none =>
      have h0' : xs.length = 0 := by
        rcases Nat.eq_zero_or_pos xs.length with h' | h'
        · exact h'
        · obtain ⟨b', o', e, _⟩ := hcl h'; cases e
      have hx : xs = [] := List.eq_nil_of_length_eq_zero h0'
      subst hx
      have hcn : css.flatten = [] := List.eq_nil_of_length_eq_zero (by rw [hcl0]; simp)
      rw [hcn]
      obtain ⟨v', w', hrun, h2, h3, _, _⟩ := run_append_own_at (P := P) w w.heap.size T ty E i0 z d.sz bytes hT hi hz0 hz1 hz2 hz hsz (.slice none 0 0) 0 [] (World.ownsRow_nil w _ E d.sz) ⟨b, o, none⟩ m cy dss.flatten hdl hnews h1 (by simpa using h63) (by simpa using hbytes) (Nat.le_refl _)
      exact ⟨v', w', hrun, h2, h3⟩
    | some A0 =>
      exact run_append_arg_grows (P := P) w T ty E i0 z d.sz bytes hT hi hz0 hz1 hz2 hz hsz A0 xs.length xs.length css.flatten hcl0 (hold A0 rfl) ⟨b, o, none⟩ m cy dss.flatten hdl hnews (by omega) h63 hbytes
  obtain ⟨v', w', hrun, ho, hg⟩ := done
  have hblk : ∀ k, k < w.heap.size → w'.heap[k]? = w.heap[k]? := fun k hk => hg.block k hk (by simp)
  have hv' : ∀ k, v'.ownBlock = some k → w.heap.size ≤ k := fun k hk => (ho.lt k hk).1
  refine ⟨v', w', hrun, ⟨css ++ dss, ?_, by rw [← hne, List.flatten_append]; exact ho⟩, ⟨hg.os, hg.tape, hg.output, hg.size, hblk⟩⟩
  have h2 : d.Els (fun k => (ok k ∧ some k ≠ v'.ownBlock) ∧ k < w.heap.size) w (xs ++ ys) (css ++ dss) :=
    (hc.append hd).bound.more (fun k hk => ⟨⟨hk.1, fun e => by have := hv' k e.symm; omega⟩, hk.2⟩)
  exact (h2.keep (fun k h3 _ => hblk k h3.2)).more (fun k hk => hk.1)

/-- append: onto what may be appended to. -/
theorem Kd.App.append {P : Program} {T ty : TypeId} {z : Value} {bytes : Nat} (hT : P.underlying T = some (.slice E)) (hinfo : (P.info? E).map (fun i => (i.zero, i.size, i.bytes)) = some (some z, d.sz, bytes))
    (hz : z.cells.size = d.sz) (hsz : 0 < d.sz) (h : d.App ok base w E v xs) (hs : d.Src (fun k => ok k ∧ some k ≠ v.ownBlock) w A m ys) (hbase : base ≤ w.heap.size) (cy : Nat)
    (h63 : xs.length + m ≤ maxLen) (hbytes : (xs.length + m) * bytes ≤ 140737488355328) :
    ∃ v' w', (Builtin.append_ #[T, T] ty #[v, .slice A m cy]).run P w = .ok v' w' ∧ d.App ok base w' E v' (xs ++ ys) ∧ (0 < m ∨ d.Own ok base w E v xs → d.Own ok base w' E v' (xs ++ ys)) ∧ Below base w w' ∧
      (∀ k, k < w.heap.size → some k ≠ v.ownBlock → w'.heap[k]? = w.heap[k]?) ∧ (v'.ownBlock = v.ownBlock ∨ ∃ k, v'.ownBlock = some k ∧ w.heap.size ≤ k) := by
  rcases Nat.eq_zero_or_pos m with h0 | h0
  · obtain ⟨i0, hi, hzz⟩ := Option.map_eq_some_iff.1 hinfo
    subst h0
    have hy : ys = [] := List.eq_nil_of_length_eq_zero hs.1
    subst hy
    refine ⟨v, w, ?_, by simpa using h, fun hh => (by simpa using hh.resolve_left (by omega)), Below.refl _ _, fun _ _ _ => rfl, .inl rfl⟩
    have hf : ∃ Av nv cv, v = .slice Av nv cv ∧ nv ≤ cv := by
      rcases h with ⟨css, _, ho⟩ | ⟨Av, rfl, hr⟩
      · rcases ho.2 with ⟨rfl, h0⟩ | ⟨g, cap, cur, rfl, _, _, hnc, _⟩
        · exact ⟨_, _, _, rfl, Nat.le_refl _⟩
        · exact ⟨_, _, _, rfl, hnc⟩
      · exact ⟨_, _, _, rfl, Nat.le_refl _⟩
    obtain ⟨Av, nv, cv, rfl, hnc⟩ := hf
    cases Av <;> cases A <;> simp [Builtin.append_, run_underlying hT, sizeOf, typeInfo, hi, Builtin.lenOf, Builtin.firstCells, hnc, storeCells, loadCells, loadCellsFrom]
  · rcases h with ⟨css, he, ho⟩ | ⟨Av, rfl, hrow⟩
    · obtain ⟨i0, hi, hzz⟩ := Option.map_eq_some_iff.1 hinfo
      simp only [Prod.mk.injEq] at hzz
      obtain ⟨hz0, hz1, hz2⟩ := hzz
      obtain ⟨hm, dss, hd, hcell⟩ := hs
      have hdl := flat_len hd.lens
      rw [hd.1, hm] at hdl
      obtain ⟨b, o, rfl, hr⟩ := hcell h0
      have hnews : ∀ j u, dss.flatten[j]? = some u → w.cell? ((⟨b, o, none⟩ : Addr).add j) = some u := fun j u hu => by
        have := hr j u hu
        rwa [Addr.add_mid]
      have hne : xs.length + m = (xs ++ ys).length := by simp [hm]
      obtain ⟨v', w', hrun, h2, h3, _, h5⟩ := run_append_own_at (P := P) w base T ty E i0 z d.sz bytes hT hi hz0 hz1 hz2 hz hsz v xs.length css.flatten ho ⟨b, o, none⟩ m cy dss.flatten hdl hnews hd.one h63 hbytes hbase
      have h6 : v'.ownBlock = v.ownBlock ∨ ∃ k, v'.ownBlock = some k ∧ w.heap.size ≤ k := h5.imp id (fun e => ⟨_, e, Nat.le_refl _⟩)
      have hown : d.Own ok base w' E v' (xs ++ ys) := by
        refine ⟨css ++ dss, ?_, by rw [← hne, List.flatten_append]; exact h2⟩
        have h2 := ((he.append hd).bound.more (ok' := fun k => (ok k ∧ some k ≠ v'.ownBlock) ∧ some k ≠ v.ownBlock ∧ k < w.heap.size) (fun k hk => ⟨⟨hk.1.1, ?_⟩, hk.1.2, hk.2⟩))
        · exact (h2.keep (fun k h3' h4 => h3.block k h4 h3'.2.1)).more (fun k hk => hk.1)
        · rcases h6 with e | ⟨k', e, hk'⟩
          · rw [e]; exact hk.1.2
          · rw [e]; intro e2; have := Option.some.inj e2; omega
      exact ⟨v', w', hrun, .inl hown, fun _ => hown, (Below.refl _ _).grown h3 hbase (fun k hk => (ho.lt k hk).1), h3.block, h6⟩
    · obtain ⟨v', w', hrun, hown, hb⟩ := (hrow.more (ok' := ok) (fun k hk => hk.1)).append (P := P) (T := T) (ty := ty) hT hinfo hz hsz (hs.more (ok' := ok) (fun k hk => hk.1)) cy h0 h63 hbytes
      have hown' := hown.lower hbase
      refine ⟨v', w', hrun, .inl hown', fun _ => hown', hb.mono hbase, fun k hk _ => hb.block k hk, ?_⟩
      obtain ⟨A', c', rfl⟩ := hown.form
      have hb' := hown.base_le
      obtain ⟨css, _, ho⟩ := hown
      rcases ho.2 with ⟨_, h0'⟩ | ⟨g, cap, cur, e, hg', hgg, _⟩
      · have := hs.1; rw [List.length_append] at h0'; omega
      · rw [e]; exact .inr ⟨g, rfl, hg'⟩

/-- append, at the operation. -/
theorem wp_app {P : Program} {op : Oper} {a : Act} {K : Act → World → Prop} {Q : Exit → Act → World → Prop} (s x : Operand) (T : TypeId)
    (ho : op.op = .call { callee := .builtin .append, args := #[s, x], argTypes := #[T, T] }) {z : Value} {bytes : Nat} (hT : P.underlying T = some (.slice E)) (hinfo : (P.info? E).map (fun i => (i.zero, i.size, i.bytes)) = some (some z, d.sz, bytes))
    (hz : z.cells.size = d.sz) (hsz : 0 < d.sz) (cy : Nat) (hs : a.eval s = v) (hx : a.eval x = .slice A m cy) (h : d.App ok base w E v xs) (hsrc : d.Src (fun k => ok k ∧ some k ≠ v.ownBlock) w A m ys) (hbase : base ≤ w.heap.size)
    (h63 : xs.length + m ≤ maxLen) (hbytes : (xs.length + m) * bytes ≤ 140737488355328)
    (k : ∀ v' w', d.App ok base w' E v' (xs ++ ys) → (0 < m ∨ d.Own ok base w E v xs → d.Own ok base w' E v' (xs ++ ys)) → Below base w w' → (∀ k, k < w.heap.size → some k ≠ v.ownBlock → w'.heap[k]? = w.heap[k]?) →
      (v'.ownBlock = v.ownBlock ∨ ∃ k, v'.ownBlock = some k ∧ w.heap.size ≤ k) → K (a.put op.dst v') w') : op.wp P a w K Q := by
  obtain ⟨v', w', hrun, h1, h2, h3, h4, h5⟩ := h.append (P := P) (T := T) (ty := op.type) hT hinfo hz hsz hsrc hbase cy h63 hbytes
  unfold Oper.wp execOp
  simp only [ho, resolve, invoke, builtin, Sem.run_bind, Sem.run_pure, Result.andThen_ok, List.map_toArray, List.map_cons, List.map_nil, hs, hx, hrun]
  exact k v' w' h1 h2 h3 h4 h5
/-- append, where the walk stands at it. -/
theorem wpList_app {P : Program} {ops : Array Oper} {rest : List Oper} {op : Oper} {a : Act} {Q : Exit → Act → World → Prop} (hgd : op.guard = none) (s x : Operand) (T : TypeId)
    (ho : op.op = .call { callee := .builtin .append, args := #[s, x], argTypes := #[T, T] }) {z : Value} {bytes : Nat} (hT : P.underlying T = some (.slice E)) (hinfo : (P.info? E).map (fun i => (i.zero, i.size, i.bytes)) = some (some z, d.sz, bytes))
    (hz : z.cells.size = d.sz) (hsz : 0 < d.sz) (cy : Nat) (hs : a.eval s = v) (hx : a.eval x = .slice A m cy) (h : d.App ok base w E v xs) (hsrc : d.Src (fun k => ok k ∧ some k ≠ v.ownBlock) w A m ys) (hbase : base ≤ w.heap.size)
    (h63 : xs.length + m ≤ maxLen) (hbytes : (xs.length + m) * bytes ≤ 140737488355328)
    (k : ∀ v' w', d.App ok base w' E v' (xs ++ ys) → (0 < m ∨ d.Own ok base w E v xs → d.Own ok base w' E v' (xs ++ ys)) → Below base w w' → (∀ k, k < w.heap.size → some k ≠ v.ownBlock → w'.heap[k]? = w.heap[k]?) →
      (v'.ownBlock = v.ownBlock ∨ ∃ k, v'.ownBlock = some k ∧ w.heap.size ≤ k) → wpList P ops Q rest (a.put op.dst v') w') : wpList P ops Q (op :: rest) a w :=
  wpList_plain hgd fun _ hK => wp_app s x T ho hT hinfo hz hsz cy hs hx h hsrc hbase h63 hbytes fun v' w' h1 h2 h3 h4 h5 => hK _ _ (k v' w' h1 h2 h3 h4 h5)
/-- append, in a region that draws its order. -/
theorem step_app {P : Program} {ops : Array Oper} {op : Oper} {a : Act} {K : Act → World → Prop} {Q : Exit → Act → World → Prop} {X : Prop} (hgd : op.guard = none) (s x : Operand) (T : TypeId)
    (ho : op.op = .call { callee := .builtin .append, args := #[s, x], argTypes := #[T, T] }) {z : Value} {bytes : Nat} (hT : P.underlying T = some (.slice E)) (hinfo : (P.info? E).map (fun i => (i.zero, i.size, i.bytes)) = some (some z, d.sz, bytes))
    (hz : z.cells.size = d.sz) (hsz : 0 < d.sz) (cy : Nat) (hs : a.eval s = v) (hx : a.eval x = .slice A m cy) (h : d.App ok base w E v xs) (hsrc : d.Src (fun k => ok k ∧ some k ≠ v.ownBlock) w A m ys) (hbase : base ≤ w.heap.size)
    (h63 : xs.length + m ≤ maxLen) (hbytes : (xs.length + m) * bytes ≤ 140737488355328)
    (k : ∀ v' w', d.App ok base w' E v' (xs ++ ys) → (0 < m ∨ d.Own ok base w E v xs → d.Own ok base w' E v' (xs ++ ys)) → Below base w w' → (∀ k, k < w.heap.size → some k ≠ v.ownBlock → w'.heap[k]? = w.heap[k]?) →
      (v'.ownBlock = v.ownBlock ∨ ∃ k, v'.ownBlock = some k ∧ w.heap.size ≤ k) → K (a.put op.dst v') w') :
    if Region.wanted op (yielded ops a.tmps) = true then op.wp P a w K Q else X := by
  rw [if_pos (by simp [Region.wanted, hgd])]
  exact wp_app s x T ho hT hinfo hz hsz cy hs hx h hsrc hbase h63 hbytes k
/-- append onto a row without room, at the operation; where the walk stands at it; in a region that draws its order. -/
theorem wp_full {P : Program} {op : Oper} {a : Act} {K : Act → World → Prop} {Q : Exit → Act → World → Prop} (s x : Operand) (T : TypeId)
    (ho : op.op = .call { callee := .builtin .append, args := #[s, x], argTypes := #[T, T] }) {z : Value} {bytes : Nat} (hT : P.underlying T = some (.slice E)) (hinfo : (P.info? E).map (fun i => (i.zero, i.size, i.bytes)) = some (some z, d.sz, bytes))
    (hz : z.cells.size = d.sz) (hsz : 0 < d.sz) (cy : Nat) {B : Option Addr} (hs : a.eval s = .slice A n n) (hx : a.eval x = .slice B m cy) (hrow : d.Row ok w A n n xs) (hsrc : d.Src ok w B m ys) (h0 : 0 < m)
    (h63 : n + m ≤ maxLen) (hbytes : (n + m) * bytes ≤ 140737488355328)
    (k : ∀ v' w', d.Own ok w.heap.size w' E v' (xs ++ ys) → Below w.heap.size w w' → K (a.put op.dst v') w') : op.wp P a w K Q := by
  obtain ⟨v', w', hrun, h1, h2⟩ := hrow.append (P := P) (T := T) (ty := op.type) hT hinfo hz hsz hsrc cy h0 h63 hbytes
  unfold Oper.wp execOp
  simp only [ho, resolve, invoke, builtin, Sem.run_bind, Sem.run_pure, Result.andThen_ok, List.map_toArray, List.map_cons, List.map_nil, hs, hx, hrun]
  exact k v' w' h1 h2
theorem wpList_full {P : Program} {ops : Array Oper} {rest : List Oper} {op : Oper} {a : Act} {Q : Exit → Act → World → Prop} (hgd : op.guard = none) (s x : Operand) (T : TypeId)
    (ho : op.op = .call { callee := .builtin .append, args := #[s, x], argTypes := #[T, T] }) {z : Value} {bytes : Nat} (hT : P.underlying T = some (.slice E)) (hinfo : (P.info? E).map (fun i => (i.zero, i.size, i.bytes)) = some (some z, d.sz, bytes))
    (hz : z.cells.size = d.sz) (hsz : 0 < d.sz) (cy : Nat) {B : Option Addr} (hs : a.eval s = .slice A n n) (hx : a.eval x = .slice B m cy) (hrow : d.Row ok w A n n xs) (hsrc : d.Src ok w B m ys) (h0 : 0 < m)
    (h63 : n + m ≤ maxLen) (hbytes : (n + m) * bytes ≤ 140737488355328)
    (k : ∀ v' w', d.Own ok w.heap.size w' E v' (xs ++ ys) → Below w.heap.size w w' → wpList P ops Q rest (a.put op.dst v') w') : wpList P ops Q (op :: rest) a w :=
  wpList_plain hgd fun _ hK => wp_full s x T ho hT hinfo hz hsz cy hs hx hrow hsrc h0 h63 hbytes fun v' w' h1 h2 => hK _ _ (k v' w' h1 h2)
theorem step_full {P : Program} {ops : Array Oper} {op : Oper} {a : Act} {K : Act → World → Prop} {Q : Exit → Act → World → Prop} {X : Prop} (hgd : op.guard = none) (s x : Operand) (T : TypeId)
    (ho : op.op = .call { callee := .builtin .append, args := #[s, x], argTypes := #[T, T] }) {z : Value} {bytes : Nat} (hT : P.underlying T = some (.slice E)) (hinfo : (P.info? E).map (fun i => (i.zero, i.size, i.bytes)) = some (some z, d.sz, bytes))
    (hz : z.cells.size = d.sz) (hsz : 0 < d.sz) (cy : Nat) {B : Option Addr} (hs : a.eval s = .slice A n n) (hx : a.eval x = .slice B m cy) (hrow : d.Row ok w A n n xs) (hsrc : d.Src ok w B m ys) (h0 : 0 < m)
    (h63 : n + m ≤ maxLen) (hbytes : (n + m) * bytes ≤ 140737488355328)
    (k : ∀ v' w', d.Own ok w.heap.size w' E v' (xs ++ ys) → Below w.heap.size w w' → K (a.put op.dst v') w') :
    if Region.wanted op (yielded ops a.tmps) = true then op.wp P a w K Q else X := by
  rw [if_pos (by simp [Region.wanted, hgd])]
  exact wp_full s x T ho hT hinfo hz hsz cy hs hx hrow hsrc h0 h63 hbytes k
/-- One new element, laid in a block of its own. -/
theorem Kd.Src.new {x : α} {cs : List Value} (h : d.K ok w x cs) (C : Array Value) (hC : C.toList = cs) (H : Nat) (hH : w.heap.size = H) : d.Src ok (w.alloc (.cells C E)) (some ⟨H, 0, none⟩) 1 [x] := by
  subst hH
  refine ⟨rfl, [cs], (Kd.Els.single h).keep (fun k _ hk => Below.heap_alloc w _ k hk), fun _ => ⟨_, 0, rfl, fun j u hu => ?_⟩⟩
  rw [cell_of_row _ _ _ C E (0, 0) (heap_alloc_new w _)]
  simp only [List.flatten_cons, List.flatten_nil, List.append_nil] at hu
  rw [← hC] at hu
  simpa using hu
theorem Kd.Src.blk {x : α} {cs : List Value} {C : Array Value} {g : Nat} {fr : Nat × Nat} (hg : w.heap[g]? = some (.cells C E fr)) (h : d.K ok w x cs) (hC : C.toList = cs) : d.Src ok w (some ⟨g, 0, none⟩) 1 [x] := by
  refine ⟨rfl, [cs], Kd.Els.single h, fun _ => ⟨_, 0, rfl, fun j u hu => ?_⟩⟩
  rw [cell_of_row _ _ _ C E fr hg]
  simp only [List.flatten_cons, List.flatten_nil, List.append_nil] at hu
  rw [← hC] at hu
  simpa using hu
theorem Kd.App.keep (h : d.App ok base w E v xs) (_hb : base ≤ w.heap.size) (hk : ∀ k, k < w.heap.size → (k < base ∨ ok k ∨ some k = v.ownBlock) → w'.heap[k]? = w.heap[k]?) : d.App ok base w' E v xs := by
  rcases h with h | ⟨A, rfl, h⟩
  · exact .inl (h.keep fun k h1 h2 => hk k h1 (.inr h2))
  · exact .inr ⟨A, rfl, h.keep fun k h1 h2 => hk k h2 (.inl h1.2)⟩
theorem Kd.App.alloc (h : d.App ok base w E v xs) (hb : base ≤ w.heap.size) (o : Obj) : d.App ok base (w.alloc o) E v xs := h.keep hb fun k hk _ => Below.heap_alloc w o k hk
theorem Kd.App.below (h : d.App ok base w E v xs) (hb : base ≤ w.heap.size) (hw : Below w.heap.size w w') : d.App ok base w' E v xs := h.keep hb fun k hk _ => hw.block k hk
theorem Kd.App.form (h : d.App ok base w E v xs) : ∃ A c, v = .slice A xs.length c := by
  rcases h with h | ⟨A, rfl, _⟩
  · exact h.form
  · exact ⟨_, _, rfl⟩
end

/-- A row that is laid out whole. -/
theorem Kd.Own.lit {α : Type} {d : Kd α} {ok : Nat → Prop} {base : Nat} {w : World} {E : TypeId} {xs : List α} {css : List (List Value)} (h : d.Els ok w xs css) (C : Array Value) (hC : C.toList = css.flatten) (n : Nat) (hn : xs.length = n) (hm : n ≤ maxLen) (H : Nat) (hH : w.heap.size = H) (hb : base ≤ H) :
    d.Own ok base (w.alloc (.cells C E)) E (.slice (some ⟨H, 0, none⟩) n n) xs := by
  subst hH
  have hl := flat_len h.lens
  rw [h.1, hn] at hl
  refine ⟨css, ((h.bound.more (ok' := fun k => (ok k ∧ some k ≠ some w.heap.size) ∧ k < w.heap.size) (fun k hk => ⟨⟨hk.1, fun e => by have := Option.some.inj e; omega⟩, hk.2⟩)).keep (fun k _ hk => Below.heap_alloc w _ k hk)).more (fun k hk => hk.1), ?_⟩
  rw [hn]
  refine ⟨hl, .inr ⟨w.heap.size, n, C, rfl, hb, heap_alloc_new w _, Nat.le_refl _, hm, ?_, ?_⟩⟩
  · rw [← Array.length_toList, hC, hl]
  · rw [hC, List.take_of_length_le (by omega)]

theorem kU8_row {w : World} {ok : Nat → Prop} {x : UInt8} {cs : List Value} (h : kU8.K ok w x cs) : cs = [bv x] := h.1

end Go.Proofs.YtckcadhjpjjmjaaDoor
namespace Go.Proofs.YtckcadhjpjjmjaaDoor
open Go.ChangeShapes Go.WideShapes Go.ChangeAt Go.RowKit

section
variable {H : Type} {enc : TypeId × Value → H} {P : Program}
theorem stays_all {W W' : World} {sp : Nat → Bool} (hl : laidOutB P = true) (hb : Below W.heap.size W W') : ∀ {ts : List TypeId} {vs : List Value} {ds : List (DataW H)} {p : List MemPlace}, ts.all (fun t => P.readableRec t && decide (t < P.types.size)) = true →
    DataW.TrodAll enc P W 0 (fun _ => true) true ts vs ds p → (∀ x ∈ p, x.block < W.heap.size) → (∀ x ∈ p, sp x.block = true) → DataW.TrodAll enc P W' 0 sp true ts vs ds p
  | [], _, _, _, _, h, _, _ => by
    obtain ⟨rfl, rfl, rfl⟩ := trodAll_nil h
    exact trodAll_mk0
  | t :: ts, _, _, _, ht, h, hlt, hs => by
    obtain ⟨v, vs1, d, ds1, a, b, rfl, rfl, rfl, h1, h2⟩ := trodAll_cons h
    simp only [List.all_cons, Bool.and_eq_true, decide_eq_true_eq] at ht
    exact ⟨a, b, Go.WideElems.Trod_stays hl ht.1.1 ht.1.2 h1 (fun x hx => hb.same (hlt x (by simp [hx]))) (fun x hx => hs x (by simp [hx])),
      stays_all hl hb (by simpa using ht.2) h2 (fun x hx => hlt x (by simp [hx])) (fun x hx => hs x (by simp [hx])), rfl⟩

theorem post_true {f : Func} {s : ChangeSpec} {apart fresh handsOn again : Bool} {W W' : World} {args : Array Value} {ds gs : List (DataW H)} {before : List MemPlace} {tb : TypeId} (hl : laidOutB P = true)
    (hp : f.params.toList.all (fun t => P.readableRec t && decide (t < P.types.size)) = true) (hr : f.resultTypes = #[tb]) (hbt : P.underlying tb = some .bool) (hsv : s.vars = [])
    (hW : DataW.Whole enc P f.params.toList s.vars apart W args.toList ds gs before) (hfn : s.fn H (ds ++ gs) = { results := [.lit (.bool true)], args := ds }) (hb : Below W.heap.size W W') :
    s.post enc P f apart fresh handsOn again W args (.bool true) W' := by
  have hlt : ∀ p ∈ before, p.block < W.heap.size := fun p hp => hW.lt p hp
  have hold : ∀ p ∈ before, (fun b => decide (b < W.heap.size)) p.block = true := fun p hp => by simpa using hlt p hp
  have hW' := hW
  obtain ⟨p, q, hA, hV, rfl, hz, hn⟩ := hW
  rw [hsv] at hV
  obtain ⟨rfl, rfl⟩ := trodVars_none hV
  have hargs : ∀ sp : Nat → Bool, (∀ x ∈ p, sp x.block = true) → DataW.TrodAll enc P W' 0 sp true f.params.toList args.toList (s.fn H (ds ++ [])).args p := fun sp hs => by
    rw [hfn]
    exact stays_all hl hb hp hA (fun x hx => hlt x (by simp [hx])) hs
  have hres : ∀ (b : Nat) (sp : Nat → Bool) (hd : Bool), DataW.TrodAll enc P W' b sp hd f.resultTypes.toList ((Value.bool true).resultList f.resultTypes.size) (s.fn H (ds ++ [])).results [] := fun b sp hd => by
    rw [hfn, hr]
    exact trodAll_mk1 (shut_bool hbt _)
  have hvars : ∀ sp : Nat → Bool, DataW.TrodVars enc P W' sp s.vars (s.fn H (ds ++ [])).vars [] := fun sp => by
    rw [hfn, hsv]
    simp [DataW.TrodVars]
  refine ⟨ds, [], p ++ [], [], p, [], hW', hres _ _ _, hargs _ (fun x hx => hold x (by simp [hx])), hvars _, World.keptBut_mono (fun x hx => ⟨hx, ?_⟩) (hb.frame (· ∈ p ++ [])), fun _ => ?_⟩
  · exact Or.inr (by simpa using hx)
  · refine ⟨ok_one hr rfl (okWide_bool_mk hbt _), _, _, ([] ++ p) ++ [], ⟨[] ++ p, [], trodAll_append (hargs _ (fun _ _ => rfl)) (hres _ _ _), hvars _, rfl, ?_, ?_⟩, ?_⟩
    · intro b off hp'
      have hin : MemPlace.cell b off ∈ p ++ [] := by simpa using hp'
      rw [hb.frozen (hlt _ hin)]
      exact hz b off hin
    · intro ha
      have := hn ha
      simpa using this
    · intro x hx _
      simpa using hx

theorem Addr.add_none (b o k : Nat) : (⟨b, o, none⟩ : Addr).add k = ⟨b, o + k, none⟩ := by
  unfold Addr.add
  split <;> simp_all
theorem list_of {α : Type} {Q : Nat → α → Prop} : ∀ n, (∀ i, i < n → ∃ y, Q i y) → ∃ xs : List α, xs.length = n ∧ ∀ i y, xs[i]? = some y → Q i y
  | 0, _ => ⟨[], rfl, fun i y h => by simp at h⟩
  | n + 1, h => by
    obtain ⟨xs, hl, hx⟩ := list_of n (fun i hi => h i (by omega))
    obtain ⟨y, hy⟩ := h n (by omega)
    refine ⟨xs ++ [y], by simp [hl], fun i z hz => ?_⟩
    rcases Nat.lt_or_ge i xs.length with h' | h'
    · rw [List.getElem?_append_left h'] at hz; exact hx i z hz
    · rw [List.getElem?_append_right h'] at hz
      have : i = n := by
        have := (List.getElem?_eq_some_iff.1 hz).1
        simp at this
        omega
      subst this
      rw [hl, Nat.sub_self] at hz
      obtain rfl : y = z := by simpa using hz
      exact hy

variable {w : World} {spare : Nat → Bool} {held : Bool}
theorem trod_row {α : Type} {d : Kd α} {t e : TypeId} {fuel : Nat} {cs : List Value} {x : DataW H × List MemPlace} (hT : P.underlying t = some (.slice e)) (hsz : P.cellsOf e = d.sz) (h0 : 0 < d.sz)
    (hel : ∀ n cs x, DataW.trod enc P w 0 spare held n e cs = some x → ∃ y, d.K (· < w.heap.size) w y cs) (h : DataW.trod enc P w 0 spare held fuel t cs = some x) :
    ∃ A n c xs, cs = [.slice A n c] ∧ d.Row (· < w.heap.size) w A n c xs := by
  rcases Go.Deep.open_slice hT h with ⟨rfl, _⟩ | ⟨a, len, cap, m, n, D, Pl, rfl, _, hl, hm, hmm, _, hi⟩
  · exact ⟨_, _, _, [], rfl, .nil _ _ _ _ _ (Nat.zero_le _)⟩
  · have hlm : len ≤ m := by rw [hmm]; split <;> omega
    rcases Nat.eq_zero_or_pos len with hz | hpos
    · subst hz
      exact ⟨_, _, _, [], rfl, .nil _ _ _ _ _ hm⟩
    have hsp : a.spot = none ∧ a.block < w.heap.size := by
      obtain ⟨cs', hcs, htr⟩ := hi 0 (by omega)
      obtain ⟨_, hcl, hat⟩ := World.cells?_some hcs
      have hg : w.cell? a = some (cs'[0]'(by omega)) := by
        have := (hat 0 (by omega)).trans (List.getElem?_eq_getElem (by omega))
        simpa [Addr.add] using this
      exact ⟨World.cell?_spot hg, World.block_lt_of_cell? w _ hg⟩
    obtain ⟨b, o, sp⟩ := a
    obtain ⟨rfl, hlt⟩ := hsp
    have hc : ∀ i, i < len → ∃ y, ∃ cs, d.K (· < w.heap.size) w y cs ∧ w.rangeAt b (o + i * d.sz) cs := fun i hil => by
      obtain ⟨cs', hcs, htr⟩ := hi i (by omega)
      obtain ⟨y, hy⟩ := hel _ _ _ htr
      obtain ⟨_, hcl, hat⟩ := World.cells?_some hcs
      rw [hsz] at hcl hat
      refine ⟨y, cs', hy, fun j v hv => ?_⟩
      have := hat j (by rw [← hcl]; exact (List.getElem?_eq_some_iff.1 hv).1)
      rw [hv, Addr.add_none, Addr.add_none] at this
      exact this
    obtain ⟨xs, hxl, hx⟩ := list_of len hc
    exact ⟨_, _, _, xs, rfl, hxl, hl, hm, fun hn => ⟨b, o, rfl, hlt, hlt, fun i x hix => hx i x hix⟩⟩
end
end Go.Proofs.YtckcadhjpjjmjaaDoor
namespace Go.Proofs
open Go.Shelf
def Tryd.lays156_ren : Go.Shelf.Ren := ⟨fun | 156 => 48 | 165 => 79 | 166 => 80 | 169 => 81 | 240 => 100 | 241 => 101 | 276 => 124 | 277 => 125 | n => n, fun | 31 => 22 | 9 => 9 | 3 => 3 | 4 => 4 | 0 => 0 | 20 => 20 | 72 => 90 | 76 => 82 | 70 => 88 | 37 => 71 | 75 => 67 | 127 => 100 | 164 => 119 | 5 => 5 | 80 => 92 | n => n, fun | n => n⟩
theorem Tryd.lays156 : Go.Proofs.Lays.n156 Tryd.prog Tryd.lays156_ren := {
  mixed := by kernel_rfl
  f156 := Tryd.func48.trans (congrArg some (by kernel_rfl))
  f165 := Tryd.func79.trans (congrArg some (by kernel_rfl))
  f166 := Tryd.func80.trans (congrArg some (by kernel_rfl))
  f169 := Tryd.func81.trans (congrArg some (by kernel_rfl))
  f240 := Tryd.func100.trans (congrArg some (by kernel_rfl))
  f241 := Tryd.func101.trans (congrArg some (by kernel_rfl))
  f276 := Tryd.func124.trans (congrArg some (by kernel_rfl))
  f277 := Tryd.func125.trans (congrArg some (by kernel_rfl))
  t0 := Tryd.underlying0
  a0 := Tryd.isAgg0
  z0 := Tryd.sizeOf0
  v0 := Tryd.zeroValue0
  t3 := Tryd.underlying3
  a3 := Tryd.isAgg3
  z3 := Tryd.sizeOf3
  v3 := Tryd.zeroValue3
  t4 := Tryd.underlying4
  a4 := Tryd.isAgg4
  z4 := Tryd.sizeOf4
  v4 := Tryd.zeroValue4
  t9 := Tryd.underlying9
  a9 := Tryd.isAgg9
  z9 := Tryd.sizeOf9
  v9 := Tryd.zeroValue9
  t20 := Tryd.underlying20
  a20 := Tryd.isAgg20
  z20 := Tryd.sizeOf20
  v20 := Tryd.zeroValue20
  t31 := Tryd.underlying22
  a31 := Tryd.isAgg22
  z31 := Tryd.sizeOf22
  v31 := Tryd.zeroValue22
  t37 := Tryd.underlying71
  a37 := Tryd.isAgg71
  z37 := Tryd.sizeOf71
  v37 := Tryd.zeroValue71
  t70 := Tryd.underlying88
  a70 := Tryd.isAgg88
  z70 := Tryd.sizeOf88
  v70 := Tryd.zeroValue88
  t72 := Tryd.underlying90
  a72 := Tryd.isAgg90
  z72 := Tryd.sizeOf90
  v72 := Tryd.zeroValue90
  t75 := Tryd.underlying67
  a75 := Tryd.isAgg67
  z75 := Tryd.sizeOf67
  v75 := Tryd.zeroValue67
  t76 := Tryd.underlying82
  a76 := Tryd.isAgg82
  z76 := Tryd.sizeOf82
  v76 := Tryd.zeroValue82
  t127 := Tryd.underlying100
  a127 := Tryd.isAgg100
  z127 := Tryd.sizeOf100
  v127 := Tryd.zeroValue100
  t164 := Tryd.underlying119
  a164 := Tryd.isAgg119
  z164 := Tryd.sizeOf119
  v164 := Tryd.zeroValue119 }
theorem Tryd.Builder_Extra_156 : Builder.Extra Tryd.prog Tryd.lays156_ren := {
  sizeBuilder := by kernel_rfl
  liesBuilder := by kernel_rfl
  t5 := Tryd.underlying5
  a5 := Tryd.isAgg5
  z5 := Tryd.sizeOf5
  v5 := Tryd.zeroValue5
  infoByte := by kernel_rfl
  cellsByte := by kernel_rfl
  sizeByte := by kernel_rfl
  neB5 := by decide }
open Go.RowKit in
theorem Tryd.strings_Join_none (a : Option Addr) (c : Nat) (sep : ByteArray) (w : World) :
    Calls Tryd.prog 48 #[.slice a 0 c, .string sep] w fun e w' => e = .returned (.string ⟨#[]⟩) ∧ w' = w := Any.strings_Join_none Tryd.lays156 Tryd.Builder_Extra_156 a c sep w
open Go.RowKit in
theorem Tryd.strings_Join (bk o c : Nat) (xs : List ByteArray) (sep : ByteArray) (w : World) (hcells : ∀ (j : Nat) x, xs[j]? = some x → w.cell? ⟨bk, o + j, none⟩ = some (.string x)) (hbk : bk < w.heap.size) (hN : xs.length ≤ 140737488355328) (hcap : xs.length ≤ c) (hlen : (Lib.join (xs.map (·.data.toList)) sep.data.toList).length ≤ 140737488355328) :
    Calls Tryd.prog 48 #[.slice (some ⟨bk, o, none⟩) xs.length c, .string sep] w fun e w' => e = .returned (.string ⟨(Lib.join (xs.map (·.data.toList)) sep.data.toList).toArray⟩) ∧ Below w.heap.size w w' := Any.strings_Join Tryd.lays156 Tryd.Builder_Extra_156 bk o c xs sep w hcells hbk hN hcap hlen
def Tryd.laysGw17_ren : Go.Shelf.Ren := ⟨fun | 17 => 59 | 15 => 88 | 20 => 109 | n => n, fun | 9 => 9 | 23 => 63 | 4 => 4 | 3 => 3 | 0 => 0 | 21 => 21 | n => n, fun | n => n⟩
theorem Tryd.laysGw17 : Go.Proofs.LaysGw.n17 Tryd.prog Tryd.laysGw17_ren := {
  mixed := by kernel_rfl
  f15 := Tryd.func88.trans (congrArg some (by kernel_rfl))
  f17 := Tryd.func59.trans (congrArg some (by kernel_rfl))
  f20 := Tryd.func109.trans (congrArg some (by kernel_rfl))
  t0 := Tryd.underlying0
  a0 := Tryd.isAgg0
  z0 := Tryd.sizeOf0
  v0 := Tryd.zeroValue0
  i0 := by kernel_rfl
  t3 := Tryd.underlying3
  a3 := Tryd.isAgg3
  z3 := Tryd.sizeOf3
  v3 := Tryd.zeroValue3
  i3 := by kernel_rfl
  t4 := Tryd.underlying4
  a4 := Tryd.isAgg4
  z4 := Tryd.sizeOf4
  v4 := Tryd.zeroValue4
  i4 := by kernel_rfl
  t9 := Tryd.underlying9
  a9 := Tryd.isAgg9
  z9 := Tryd.sizeOf9
  v9 := Tryd.zeroValue9
  i9 := by kernel_rfl
  t21 := Tryd.underlying21
  a21 := Tryd.isAgg21
  z21 := Tryd.sizeOf21
  v21 := Tryd.zeroValue21
  i21 := by kernel_rfl
  t23 := Tryd.underlying63
  a23 := Tryd.isAgg63
  z23 := Tryd.sizeOf63
  v23 := Tryd.zeroValue63
  i23 := by kernel_rfl }
open Go.RowKit Go.Lib in
theorem Tryd.strings_ContainsFunc (g : Nat) (lb : Array Value) (eg : ∀ args w, (callFunc g args).run Tryd.prog w = .ok (.enter g args) w) (p : Nat → Bool) (s : ByteArray) (w : World) (hp : PredAt Tryd.prog g lb encR p w) :
    Calls Tryd.prog 59 #[.string s, .func (.func g) #[] lb] w fun e w' => e = .returned (.bool (decide (0 ≤ Lib.idxFunc p true s))) ∧ Below w.heap.size w w' := Any.strings_ContainsFunc Tryd.laysGw17 g lb eg p s w hp
def Tryd.lays146_ren : Go.Shelf.Ren := ⟨fun | 146 => 50 | 221 => 82 | 268 => 102 | 138 => 103 | 143 => 104 | 195 => 126 | 197 => 107 | 218 => 127 | 219 => 121 | 260 => 128 | 217 => 137 | 225 => 138 | 224 => 139 | 267 => 140 | 266 => 144 | 314 => 145 | n => n, fun | 9 => 9 | 31 => 22 | 3 => 3 | 4 => 4 | 0 => 0 | 105 => 103 | 21 => 21 | 5 => 5 | 46 => 79 | 119 => 136 | 139 => 139 | 138 => 138 | 146 => 144 | 51 => 132 | n => n, fun | 1 => 5 | 3 => 6 | 4 => 7 | n => n⟩
theorem Tryd.lays146 : Go.Proofs.Lays.n146 Tryd.prog Tryd.lays146_ren := {
  mixed := by kernel_rfl
  f138 := Tryd.func103.trans (congrArg some (by kernel_rfl))
  f143 := Tryd.func104.trans (congrArg some (by kernel_rfl))
  f146 := Tryd.func50.trans (congrArg some (by kernel_rfl))
  f195 := Tryd.func126.trans (congrArg some (by kernel_rfl))
  f197 := Tryd.func107.trans (congrArg some (by kernel_rfl))
  f217 := Tryd.func137.trans (congrArg some (by kernel_rfl))
  f218 := Tryd.func127.trans (congrArg some (by kernel_rfl))
  f219 := Tryd.func121.trans (congrArg some (by kernel_rfl))
  f221 := Tryd.func82.trans (congrArg some (by kernel_rfl))
  f224 := Tryd.func139.trans (congrArg some (by kernel_rfl))
  f225 := Tryd.func138.trans (congrArg some (by kernel_rfl))
  f260 := Tryd.func128.trans (congrArg some (by kernel_rfl))
  f266 := Tryd.func144.trans (congrArg some (by kernel_rfl))
  f267 := Tryd.func140.trans (congrArg some (by kernel_rfl))
  f268 := Tryd.func102.trans (congrArg some (by kernel_rfl))
  f314 := Tryd.func145.trans (congrArg some (by kernel_rfl))
  t0 := Tryd.underlying0
  a0 := Tryd.isAgg0
  z0 := Tryd.sizeOf0
  v0 := Tryd.zeroValue0
  t3 := Tryd.underlying3
  a3 := Tryd.isAgg3
  z3 := Tryd.sizeOf3
  v3 := Tryd.zeroValue3
  t4 := Tryd.underlying4
  a4 := Tryd.isAgg4
  z4 := Tryd.sizeOf4
  v4 := Tryd.zeroValue4
  t5 := Tryd.underlying5
  a5 := Tryd.isAgg5
  z5 := Tryd.sizeOf5
  v5 := Tryd.zeroValue5
  t9 := Tryd.underlying9
  a9 := Tryd.isAgg9
  z9 := Tryd.sizeOf9
  v9 := Tryd.zeroValue9
  t21 := Tryd.underlying21
  a21 := Tryd.isAgg21
  z21 := Tryd.sizeOf21
  v21 := Tryd.zeroValue21
  t31 := Tryd.underlying22
  a31 := Tryd.isAgg22
  z31 := Tryd.sizeOf22
  v31 := Tryd.zeroValue22
  t46 := Tryd.underlying79
  a46 := Tryd.isAgg79
  z46 := Tryd.sizeOf79
  v46 := Tryd.zeroValue79
  t51 := Tryd.underlying132
  a51 := Tryd.isAgg132
  z51 := Tryd.sizeOf132
  v51 := Tryd.zeroValue132
  t105 := Tryd.underlying103
  a105 := Tryd.isAgg103
  z105 := Tryd.sizeOf103
  v105 := Tryd.zeroValue103
  t119 := Tryd.underlying136
  a119 := Tryd.isAgg136
  z119 := Tryd.sizeOf136
  t138 := Tryd.underlying138
  a138 := Tryd.isAgg138
  z138 := Tryd.sizeOf138
  v138 := Tryd.zeroValue138
  t139 := Tryd.underlying139
  a139 := Tryd.isAgg139
  z139 := Tryd.sizeOf139
  v139 := Tryd.zeroValue139
  t146 := Tryd.underlying144
  a146 := Tryd.isAgg144
  z146 := Tryd.sizeOf144
  v146 := Tryd.zeroValue144
  g1 := by kernel_rfl
  g3 := by kernel_rfl
  g4 := by kernel_rfl }
open Go.RowKit Go.Lib in
theorem Tryd.strings_Split (s sep : ByteArray) (m : Int) (w : World) (hs : s.size < 4294967281) (hm : w.cell? ⟨5, 0, none⟩ = some (.int .i64 m)) (h1 : 1 ≤ sep.size) :
    Calls Tryd.prog 50 #[.string s, .string sep] w fun e w' =>
      e = .returned (.slice (some ⟨w.heap.size, 0, none⟩) (Lib.countB s sep + 1) (Lib.countB s sep + 1)) ∧ w' = w.alloc (.cells ((Lib.splitB sep 0 (Lib.countB s sep) s).map Value.string).toArray 9) := Any.strings_Split Tryd.lays146 (by kernel_rfl) s sep m w hs hm h1
def Tryd.laysM146_ren : Go.Shelf.Ren := ⟨fun | 146 => 50 | 221 => 82 | 268 => 102 | 138 => 103 | 143 => 104 | 195 => 126 | 197 => 107 | 218 => 127 | 219 => 121 | 260 => 128 | 217 => 137 | 225 => 138 | 224 => 139 | 267 => 140 | 266 => 144 | 314 => 145 | n => n, fun | 9 => 9 | 31 => 22 | 3 => 3 | 4 => 4 | 0 => 0 | 105 => 103 | 21 => 21 | 5 => 5 | 46 => 79 | 119 => 136 | 139 => 139 | 138 => 138 | 146 => 144 | 51 => 132 | n => n, fun | 1 => 5 | 3 => 6 | 4 => 7 | n => n⟩
theorem Tryd.laysM146 : Go.Proofs.LaysM.n146 Tryd.prog Tryd.laysM146_ren := {
  mixed := by kernel_rfl
  f138 := Tryd.func103.trans (congrArg some (by kernel_rfl))
  f143 := Tryd.func104.trans (congrArg some (by kernel_rfl))
  f146 := Tryd.func50.trans (congrArg some (by kernel_rfl))
  f195 := Tryd.func126.trans (congrArg some (by kernel_rfl))
  f197 := Tryd.func107.trans (congrArg some (by kernel_rfl))
  f217 := Tryd.func137.trans (congrArg some (by kernel_rfl))
  f218 := Tryd.func127.trans (congrArg some (by kernel_rfl))
  f219 := Tryd.func121.trans (congrArg some (by kernel_rfl))
  f221 := Tryd.func82.trans (congrArg some (by kernel_rfl))
  f224 := Tryd.func139.trans (congrArg some (by kernel_rfl))
  f225 := Tryd.func138.trans (congrArg some (by kernel_rfl))
  f260 := Tryd.func128.trans (congrArg some (by kernel_rfl))
  f266 := Tryd.func144.trans (congrArg some (by kernel_rfl))
  f267 := Tryd.func140.trans (congrArg some (by kernel_rfl))
  f268 := Tryd.func102.trans (congrArg some (by kernel_rfl))
  f314 := Tryd.func145.trans (congrArg some (by kernel_rfl))
  t0 := Tryd.underlying0
  a0 := Tryd.isAgg0
  z0 := Tryd.sizeOf0
  v0 := Tryd.zeroValue0
  t3 := Tryd.underlying3
  a3 := Tryd.isAgg3
  z3 := Tryd.sizeOf3
  v3 := Tryd.zeroValue3
  t4 := Tryd.underlying4
  a4 := Tryd.isAgg4
  z4 := Tryd.sizeOf4
  v4 := Tryd.zeroValue4
  t5 := Tryd.underlying5
  a5 := Tryd.isAgg5
  z5 := Tryd.sizeOf5
  v5 := Tryd.zeroValue5
  t9 := Tryd.underlying9
  a9 := Tryd.isAgg9
  z9 := Tryd.sizeOf9
  v9 := Tryd.zeroValue9
  t21 := Tryd.underlying21
  a21 := Tryd.isAgg21
  z21 := Tryd.sizeOf21
  v21 := Tryd.zeroValue21
  t31 := Tryd.underlying22
  a31 := Tryd.isAgg22
  z31 := Tryd.sizeOf22
  v31 := Tryd.zeroValue22
  t46 := Tryd.underlying79
  a46 := Tryd.isAgg79
  z46 := Tryd.sizeOf79
  v46 := Tryd.zeroValue79
  t51 := Tryd.underlying132
  a51 := Tryd.isAgg132
  z51 := Tryd.sizeOf132
  v51 := Tryd.zeroValue132
  t105 := Tryd.underlying103
  a105 := Tryd.isAgg103
  z105 := Tryd.sizeOf103
  v105 := Tryd.zeroValue103
  t119 := Tryd.underlying136
  a119 := Tryd.isAgg136
  z119 := Tryd.sizeOf136
  t138 := Tryd.underlying138
  a138 := Tryd.isAgg138
  z138 := Tryd.sizeOf138
  v138 := Tryd.zeroValue138
  t139 := Tryd.underlying139
  a139 := Tryd.isAgg139
  z139 := Tryd.sizeOf139
  v139 := Tryd.zeroValue139
  t146 := Tryd.underlying144
  a146 := Tryd.isAgg144
  z146 := Tryd.sizeOf144
  v146 := Tryd.zeroValue144
  g1 := by kernel_rfl
  g3 := by kernel_rfl
  g4 := by kernel_rfl
  i0 := by kernel_rfl
  i3 := by kernel_rfl
  i4 := by kernel_rfl
  i5 := by kernel_rfl
  i9 := by kernel_rfl
  i21 := by kernel_rfl
  i31 := by kernel_rfl
  i46 := by kernel_rfl
  i51 := by kernel_rfl
  i105 := by kernel_rfl
  i138 := by kernel_rfl
  i139 := by kernel_rfl
  i146 := by kernel_rfl
  m1 := by kernel_rfl
  s1_3 := fun w h => Go.Proofs.cell_of_shapedOpen_int (zero := #[.int .i64 0]) (t := 3) h (of_decide_eq_true (by kernel_rfl)) (by kernel_rfl) rfl (by kernel_rfl) (by kernel_rfl) Tryd.underlying3
  m3 := by kernel_rfl
  m4 := by kernel_rfl }
def Tryd.lays110_ren : Go.Shelf.Ren := ⟨fun | 110 => 61 | 109 => 89 | n => n, fun | 31 => 22 | 9 => 9 | 4 => 4 | 3 => 3 | 0 => 0 | n => n, fun | n => n⟩
theorem Tryd.lays110 : Go.Proofs.Lays.n110 Tryd.prog Tryd.lays110_ren := {
  mixed := by kernel_rfl
  f109 := Tryd.func89.trans (congrArg some (by kernel_rfl))
  f110 := Tryd.func61.trans (congrArg some (by kernel_rfl))
  t0 := Tryd.underlying0
  a0 := Tryd.isAgg0
  z0 := Tryd.sizeOf0
  v0 := Tryd.zeroValue0
  t3 := Tryd.underlying3
  a3 := Tryd.isAgg3
  z3 := Tryd.sizeOf3
  v3 := Tryd.zeroValue3
  t4 := Tryd.underlying4
  a4 := Tryd.isAgg4
  z4 := Tryd.sizeOf4
  v4 := Tryd.zeroValue4
  t9 := Tryd.underlying9
  a9 := Tryd.isAgg9
  z9 := Tryd.sizeOf9
  v9 := Tryd.zeroValue9
  t31 := Tryd.underlying22
  a31 := Tryd.isAgg22
  z31 := Tryd.sizeOf22
  v31 := Tryd.zeroValue22 }
open Go.Lib in
theorem Tryd.slices_Contains_string (b off n c : Nat) (zs : List ByteArray) (x : ByteArray) (w : World) (hz : n ≤ zs.length) (hbig : n ≤ 9223372036854775807) (hc : ∀ j, j < zs.length → w.cell? ⟨b, off + j, none⟩ = some (.string (zs.getD j ByteArray.empty))) :
    Calls Tryd.prog 61 #[.slice (some ⟨b, off, none⟩) n c, .string x] w fun e w' => e = .returned (.bool (Lib.containsS (zs.take n) x)) ∧ w' = w := Any.slices_Contains_string Tryd.lays110 b off n c zs x w hz hbig hc
open Go.Lib in
theorem Tryd.slices_Contains_string_empty (a : Option Addr) (c : Nat) (x : ByteArray) (w : World) :
    Calls Tryd.prog 61 #[.slice a 0 c, .string x] w fun e w' => e = .returned (.bool false) ∧ w' = w := Any.slices_Contains_string_empty Tryd.lays110 a c x w
def Tryd.lays193_ren : Go.Shelf.Ren := ⟨fun | 193 => 49 | n => n, fun | 31 => 22 | 9 => 9 | 4 => 4 | 3 => 3 | 0 => 0 | n => n, fun | n => n⟩
theorem Tryd.lays193 : Go.Proofs.Lays.n193 Tryd.prog Tryd.lays193_ren := {
  mixed := by kernel_rfl
  f193 := Tryd.func49.trans (congrArg some (by kernel_rfl))
  t0 := Tryd.underlying0
  a0 := Tryd.isAgg0
  z0 := Tryd.sizeOf0
  v0 := Tryd.zeroValue0
  t3 := Tryd.underlying3
  a3 := Tryd.isAgg3
  z3 := Tryd.sizeOf3
  v3 := Tryd.zeroValue3
  t4 := Tryd.underlying4
  a4 := Tryd.isAgg4
  z4 := Tryd.sizeOf4
  v4 := Tryd.zeroValue4
  t9 := Tryd.underlying9
  a9 := Tryd.isAgg9
  z9 := Tryd.sizeOf9
  v9 := Tryd.zeroValue9
  t31 := Tryd.underlying22
  a31 := Tryd.isAgg22
  z31 := Tryd.sizeOf22
  v31 := Tryd.zeroValue22 }
open Go.RowKit Go.Lib in
theorem Tryd.slices_Equal_string (b1 o1 n c b2 o2 m d : Nat) (xs ys : List ByteArray) (w : World) (hx : n ≤ xs.length) (hy : m ≤ ys.length) (hbig : n ≤ 9223372036854775807) (hbig2 : m ≤ 9223372036854775807) (hc1 : ∀ j, j < xs.length → w.cell? ⟨b1, o1 + j, none⟩ = some (.string (xs.getD j ByteArray.empty))) (hc2 : ∀ j, j < ys.length → w.cell? ⟨b2, o2 + j, none⟩ = some (.string (ys.getD j ByteArray.empty))) :
    Calls Tryd.prog 49 #[.slice (some ⟨b1, o1, none⟩) n c, .slice (some ⟨b2, o2, none⟩) m d] w fun e w' => e = .returned (.bool (decide (xs.take n = ys.take m))) ∧ ∃ q, w' = w.drewN q := Any.slices_Equal_string Tryd.lays193 b1 o1 n c b2 o2 m d xs ys w hx hy hbig hbig2 hc1 hc2
open Go.RowKit Go.Lib in
theorem Tryd.slices_Equal_string_empty (a1 a2 : Option Addr) (c m d : Nat) (w : World) (hbig2 : m ≤ 9223372036854775807) :
    Calls Tryd.prog 49 #[.slice a1 0 c, .slice a2 m d] w fun e w' => e = .returned (.bool (decide (m = 0))) ∧ w' = w := Any.slices_Equal_string_empty Tryd.lays193 a1 a2 c m d w hbig2
open Go.RowKit Go.Lib in
theorem Tryd.slices_Equal_string_lens (a1 a2 : Option Addr) (n c m d : Nat) (w : World) (hnm : n ≠ m) :
    Calls Tryd.prog 49 #[.slice a1 n c, .slice a2 m d] w fun e w' => e = .returned (.bool false) ∧ w' = w := Any.slices_Equal_string_lens Tryd.lays193 a1 a2 n c m d w hnm
end Go.Proofs
namespace Go.Proofs.YtckcadhjpjjmjaaDoor
open Go.ChangeShapes Go.WideShapes Go.ChangeAt Go.RowKit

theorem laidOutD : laidOutB Tryd.prog = true := by kernel_rfl
theorem ownKnobD : ownKnob Tryd.prog.godebug = none := by kernel_rfl
theorem handed_both {H : Type} {enc : TypeId × Value → H} {a : Assume} {C : Checked} {os : Os} {f : FuncId} {fn : Func} {s : ChangeSpec} {conds : List PathCond} {apart fresh handsOn again : Bool} {X : World → Array Value → Prop}
    (hX : ∀ (w w' : World) (args : Array Value), w.heap = w'.heap → X w args → X w' args)
    (own : ownKnob C.prog.godebug = none) (started : os.Started) (noInit : C.prog.inits.idxOf? f = none) (hfn : C.prog.funcs[f]? = some fn)
    (witness : ∃ (w : World) (tape : Tape) (i : Input), w.os = os ∧ (w.forCall tape i).Shaped C.prog ∧ i.vars = [] ∧ Input.okWide C.prog (w.forCall tape i) .any w.heap.size f i ∧
      ((s.pre enc C.prog fn conds apart (w.forCall tape i).memory i.args ∧ X (w.forCall tape i).memory i.args) ∧ sizedMet enc C.prog fn (OpenSpec.ofChange s) apart (w.forCall tape i).memory i.args) ∧ a.holds C.prog (lone (Frame.enter C.prog f i.args .normal) [] (w.forCall tape i)))
    (contract : ∀ (W : World) (base : Nat) (args : Array Value) (ds gs : List (DataW H)) (before : List MemPlace),
      (∀ (j : Nat) t v, fn.params[j]? = some t → args[j]? = some v → Value.okWide C.prog W .any base t v) →
      DataW.Whole enc C.prog fn.params.toList s.vars apart W args.toList ds gs before →
      (DataW.weightsEach C.prog (fn.params.toList ++ s.plain.varTypes C.prog) (ds ++ gs)).all (· ≤ reachBytes) = true → X W args → W.ShapedOpen C.prog →
      Calls C.prog f args W fun e W' => ∃ v, e = .returned v ∧ s.post enc C.prog fn apart fresh handsOn again W args v W') :
    ReturnsInHanded a C os f .any (fun w args => (s.pre enc C.prog fn conds apart w args ∧ X w args) ∧ sizedMet enc C.prog fn (OpenSpec.ofChange s) apart w args) (s.post enc C.prog fn apart fresh handsOn again) := by
  refine returnsInHanded_of_calls own started noInit witness ?_
  intro w tape i _ hsh _ hok hpre _
  obtain ⟨_, _, _, fn', hfn', _, _, _, _, hval⟩ := hok
  have e : fn' = fn := Option.some.inj (hfn'.symm.trans hfn)
  subst e
  obtain ⟨⟨⟨ds, gs, before, hw, _⟩, hx⟩, hz⟩ := hpre
  have hw' := DataW.Whole.of_heap (w' := w.forCall tape i) (by rfl) hw
  refine (contract (w.forCall tape i) w.heap.size i.args ds gs before hval hw' (hz.weights hw) (hX _ _ _ (by rfl) hx) hsh).mono fun e W' ⟨v, he, hp⟩ => ?_
  subst he
  exact ChangeSpec.post_blind hp
theorem maxlen_of {W : World} (h : W.ShapedOpen Tryd.prog) : ∃ m, W.cell? ⟨5, 0, none⟩ = some (.int .i64 m) := Tryd.laysM146.s1_3 W h
end Go.Proofs.YtckcadhjpjjmjaaDoor
namespace Go.Proofs
open Go.Shelf
def Tryd.lays103_ren : Go.Shelf.Ren := ⟨fun | 103 => 54 | 210 => 83 | 206 => 105 | n => n, fun | 9 => 9 | 4 => 4 | 24 => 38 | 3 => 3 | n => n, fun | n => n⟩
theorem Tryd.lays103 : Go.Proofs.Lays.n103 Tryd.prog Tryd.lays103_ren := {
  mixed := by kernel_rfl
  f103 := Tryd.func54.trans (congrArg some (by kernel_rfl))
  f206 := Tryd.func105.trans (congrArg some (by kernel_rfl))
  f210 := Tryd.func83.trans (congrArg some (by kernel_rfl))
  t3 := Tryd.underlying3
  a3 := Tryd.isAgg3
  z3 := Tryd.sizeOf3
  v3 := Tryd.zeroValue3
  t4 := Tryd.underlying4
  a4 := Tryd.isAgg4
  z4 := Tryd.sizeOf4
  v4 := Tryd.zeroValue4
  t9 := Tryd.underlying9
  a9 := Tryd.isAgg9
  z9 := Tryd.sizeOf9
  v9 := Tryd.zeroValue9
  t24 := Tryd.underlying38
  a24 := Tryd.isAgg38
  z24 := Tryd.sizeOf38
  v24 := Tryd.zeroValue38 }
open Go.RowKit in
theorem Tryd.strings_CutPrefix (s p : ByteArray) (w : World) :
    Calls Tryd.prog 54 #[.string s, .string p] w fun e w' => e = .returned (.tuple #[.string ⟨(Lib.trimPrefix s.data.toList p.data.toList).toArray⟩, .bool (Lib.hasPrefix s.data.toList p.data.toList)]) ∧ w' = w := Any.strings_CutPrefix Tryd.lays103 s p w
def Tryd.laysC172_ren : Go.Shelf.Ren := ⟨fun | 172 => 74 | 244 => 98 | 245 => 91 | 247 => 122 | 279 => 112 | 280 => 113 | 281 => 114 | 282 => 115 | 287 => 90 | 316 => 130 | 171 => 77 | 205 => 131 | 321 => 110 | 322 => 111 | 243 => 99 | 246 => 123 | 283 => 116 | 284 => 117 | 285 => 118 | 286 => 119 | 129 => 133 | 317 => 132 | 318 => 134 | 319 => 135 | 320 => 136 | 337 => 143 | 338 => 72 | n => n, fun | 9 => 9 | 3 => 3 | 75 => 67 | 76 => 82 | 4 => 4 | 5 => 5 | 167 => 107 | 37 => 71 | 0 => 0 | 85 => 116 | 2 => 2 | 168 => 109 | 53 => 30 | 175 => 68 | 46 => 79 | 210 => 127 | 127 => 100 | 145 => 142 | 143 => 140 | 21 => 21 | 171 => 112 | 173 => 114 | 212 => 131 | 51 => 132 | 20 => 20 | 213 => 133 | 232 => 146 | 233 => 99 | 80 => 92 | n => n, fun | 15 => 2 | 16 => 3 | 17 => 4 | 18 => 8 | 19 => 1 | n => n⟩
theorem Tryd.laysC172 : Go.Proofs.LaysC.n172 Tryd.prog Tryd.laysC172_ren := {
  mixed := by kernel_rfl
  f129 := Tryd.func133.trans (congrArg some (by kernel_rfl))
  f171 := Tryd.func77.trans (congrArg some (by kernel_rfl))
  f172 := Tryd.func74.trans (congrArg some (by kernel_rfl))
  f205 := Tryd.func131.trans (congrArg some (by kernel_rfl))
  f243 := Tryd.func99.trans (congrArg some (by kernel_rfl))
  f244 := Tryd.func98.trans (congrArg some (by kernel_rfl))
  f245 := Tryd.func91.trans (congrArg some (by kernel_rfl))
  f246 := Tryd.func123.trans (congrArg some (by kernel_rfl))
  f247 := Tryd.func122.trans (congrArg some (by kernel_rfl))
  f279 := Tryd.func112.trans (congrArg some (by kernel_rfl))
  f280 := Tryd.func113.trans (congrArg some (by kernel_rfl))
  f281 := Tryd.func114.trans (congrArg some (by kernel_rfl))
  f282 := Tryd.func115.trans (congrArg some (by kernel_rfl))
  f283 := Tryd.func116.trans (congrArg some (by kernel_rfl))
  f284 := Tryd.func117.trans (congrArg some (by kernel_rfl))
  f285 := Tryd.func118.trans (congrArg some (by kernel_rfl))
  f286 := Tryd.func119.trans (congrArg some (by kernel_rfl))
  f287 := Tryd.func90.trans (congrArg some (by kernel_rfl))
  f316 := Tryd.func130.trans (congrArg some (by kernel_rfl))
  f317 := Tryd.func132.trans (congrArg some (by kernel_rfl))
  f318 := Tryd.func134.trans (congrArg some (by kernel_rfl))
  f319 := Tryd.func135.trans (congrArg some (by kernel_rfl))
  f320 := Tryd.func136.trans (congrArg some (by kernel_rfl))
  f321 := Tryd.func110.trans (congrArg some (by kernel_rfl))
  f322 := Tryd.func111.trans (congrArg some (by kernel_rfl))
  f337 := Tryd.func143.trans (congrArg some (by kernel_rfl))
  f338 := Tryd.func72.trans (congrArg some (by kernel_rfl))
  t0 := Tryd.underlying0
  a0 := Tryd.isAgg0
  z0 := Tryd.sizeOf0
  v0 := Tryd.zeroValue0
  t2 := Tryd.underlying2
  a2 := Tryd.isAgg2
  z2 := Tryd.sizeOf2
  v2 := Tryd.zeroValue2
  t3 := Tryd.underlying3
  a3 := Tryd.isAgg3
  z3 := Tryd.sizeOf3
  v3 := Tryd.zeroValue3
  t4 := Tryd.underlying4
  a4 := Tryd.isAgg4
  z4 := Tryd.sizeOf4
  v4 := Tryd.zeroValue4
  t5 := Tryd.underlying5
  a5 := Tryd.isAgg5
  z5 := Tryd.sizeOf5
  v5 := Tryd.zeroValue5
  t9 := Tryd.underlying9
  a9 := Tryd.isAgg9
  z9 := Tryd.sizeOf9
  v9 := Tryd.zeroValue9
  t20 := Tryd.underlying20
  a20 := Tryd.isAgg20
  z20 := Tryd.sizeOf20
  v20 := Tryd.zeroValue20
  t21 := Tryd.underlying21
  a21 := Tryd.isAgg21
  z21 := Tryd.sizeOf21
  v21 := Tryd.zeroValue21
  t37 := Tryd.underlying71
  a37 := Tryd.isAgg71
  z37 := Tryd.sizeOf71
  v37 := Tryd.zeroValue71
  t46 := Tryd.underlying79
  a46 := Tryd.isAgg79
  z46 := Tryd.sizeOf79
  v46 := Tryd.zeroValue79
  t51 := Tryd.underlying132
  a51 := Tryd.isAgg132
  z51 := Tryd.sizeOf132
  v51 := Tryd.zeroValue132
  t53 := Tryd.underlying30
  a53 := Tryd.isAgg30
  z53 := Tryd.sizeOf30
  v53 := Tryd.zeroValue30
  t75 := Tryd.underlying67
  a75 := Tryd.isAgg67
  z75 := Tryd.sizeOf67
  v75 := Tryd.zeroValue67
  t76 := Tryd.underlying82
  a76 := Tryd.isAgg82
  z76 := Tryd.sizeOf82
  v76 := Tryd.zeroValue82
  t85 := Tryd.underlying116
  a85 := Tryd.isAgg116
  z85 := Tryd.sizeOf116
  v85 := Tryd.zeroValue116
  t127 := Tryd.underlying100
  a127 := Tryd.isAgg100
  z127 := Tryd.sizeOf100
  v127 := Tryd.zeroValue100
  t143 := Tryd.underlying140
  a143 := Tryd.isAgg140
  z143 := Tryd.sizeOf140
  v143 := Tryd.zeroValue140
  t145 := Tryd.underlying142
  a145 := Tryd.isAgg142
  z145 := Tryd.sizeOf142
  v145 := Tryd.zeroValue142
  t167 := Tryd.underlying107
  a167 := Tryd.isAgg107
  z167 := Tryd.sizeOf107
  v167 := Tryd.zeroValue107
  t168 := Tryd.underlying109
  a168 := Tryd.isAgg109
  z168 := Tryd.sizeOf109
  v168 := Tryd.zeroValue109
  t171 := Tryd.underlying112
  a171 := Tryd.isAgg112
  z171 := Tryd.sizeOf112
  v171 := Tryd.zeroValue112
  t173 := Tryd.underlying114
  a173 := Tryd.isAgg114
  z173 := Tryd.sizeOf114
  v173 := Tryd.zeroValue114
  t175 := Tryd.underlying68
  a175 := Tryd.isAgg68
  z175 := Tryd.sizeOf68
  v175 := Tryd.zeroValue68
  t210 := Tryd.underlying127
  a210 := Tryd.isAgg127
  z210 := Tryd.sizeOf127
  v210 := Tryd.zeroValue127
  t212 := Tryd.underlying131
  a212 := Tryd.isAgg131
  z212 := Tryd.sizeOf131
  v212 := Tryd.zeroValue131
  t213 := Tryd.underlying133
  a213 := Tryd.isAgg133
  z213 := Tryd.sizeOf133
  t232 := Tryd.underlying146
  a232 := Tryd.isAgg146
  z232 := Tryd.sizeOf146
  v232 := Tryd.zeroValue146
  t233 := Tryd.underlying99
  a233 := Tryd.isAgg99
  z233 := Tryd.sizeOf99
  v233 := Tryd.zeroValue99
  g15 := by kernel_rfl
  g16 := by kernel_rfl
  g17 := by kernel_rfl
  g18 := by kernel_rfl
  g19 := by kernel_rfl
  t80 := Tryd.underlying92
  a80 := Tryd.isAgg92
  z80 := Tryd.sizeOf92
  v80 := Tryd.zeroValue92
  i0 := by kernel_rfl
  i2 := by kernel_rfl
  i3 := by kernel_rfl
  i4 := by kernel_rfl
  i5 := by kernel_rfl
  i9 := by kernel_rfl
  i20 := by kernel_rfl
  i21 := by kernel_rfl
  i37 := by kernel_rfl
  i46 := by kernel_rfl
  i51 := by kernel_rfl
  i53 := by kernel_rfl
  i75 := by kernel_rfl
  i76 := by kernel_rfl
  i80 := by kernel_rfl
  i85 := by kernel_rfl
  i127 := by kernel_rfl
  i143 := by kernel_rfl
  i145 := by kernel_rfl
  i167 := by kernel_rfl
  i168 := by kernel_rfl
  i171 := by kernel_rfl
  i173 := by kernel_rfl
  i175 := by kernel_rfl
  i210 := by kernel_rfl
  i212 := by kernel_rfl
  i232 := by kernel_rfl
  i233 := by kernel_rfl
  m15 := by kernel_rfl
  m16 := by kernel_rfl
  m17 := by kernel_rfl
  m18 := by kernel_rfl
  m19 := by kernel_rfl
  c0 := by kernel_rfl
  c2 := by kernel_rfl
  c3 := by kernel_rfl
  c4 := by kernel_rfl
  c5 := by kernel_rfl
  c9 := by kernel_rfl
  c20 := by kernel_rfl
  c21 := by kernel_rfl
  c37 := by kernel_rfl
  c46 := by kernel_rfl
  c51 := by kernel_rfl
  c53 := by kernel_rfl
  c75 := by kernel_rfl
  c76 := by kernel_rfl
  c80 := by kernel_rfl
  c85 := by kernel_rfl
  c127 := by kernel_rfl
  c143 := by kernel_rfl
  c145 := by kernel_rfl
  c167 := by kernel_rfl
  c168 := by kernel_rfl
  c171 := by kernel_rfl
  c173 := by kernel_rfl
  c175 := by kernel_rfl
  c210 := by kernel_rfl
  c212 := by kernel_rfl
  c213 := by kernel_rfl
  c232 := by kernel_rfl
  c233 := by kernel_rfl }
open Go.RowKit in
theorem Tryd.strconv_Atoi_ok (s : ByteArray) (hmax : s.size ≤ 9223372036854775806) (v : Int) (h : Lib.atoiAll s.data.toList = .ok v) (w : World) :
    Calls Tryd.prog 74 #[.string s] w fun e w' => e = .returned (.tuple #[.int .i64 v, .nilIface]) ∧ (w' = w ∨ ∃ t, w' = Lib.bytesWorld w 5 t) := Any.strconv_Atoi_ok Tryd.laysC172 s hmax v h w
open Go.RowKit in
theorem Tryd.strconv_Atoi_range (s : ByteArray) (hlim : s.size ≤ 281474976710656) (h : Lib.atoiAll s.data.toList = .range) (ev : Value) (w : World) (hv : w.cell? ⟨3, 0, none⟩ = some ev) (hev : ev = .nilIface ∨ ∃ te pe, ev = .iface te pe) :
    Calls Tryd.prog 74 #[.string s] w fun e w' => ∃ N, e = .returned (.tuple #[.int .i64 (Lib.atoiSat s.data.toList), .iface 109 (.pointer (some ⟨N, 0, none⟩))]) ∧ w.heap.size ≤ N ∧ w'.heap[N]? = some (.cells #[.string ⟨#[65, 116, 111, 105]⟩, .string s, ev] 127 (0, 0)) ∧ Below w.heap.size w w' := Any.strconv_Atoi_range Tryd.laysC172 s hlim h ev w hv hev
def Tryd.lays145_ren : Go.Shelf.Ren := ⟨fun | 145 => 73 | 220 => 97 | 219 => 121 | 217 => 137 | 225 => 138 | 224 => 139 | 267 => 140 | 266 => 144 | 314 => 145 | n => n, fun | 9 => 9 | 4 => 4 | 59 => 80 | 3 => 3 | 5 => 5 | 46 => 79 | 146 => 144 | 51 => 132 | n => n, fun | 1 => 5 | n => n⟩
theorem Tryd.lays145 : Go.Proofs.Lays.n145 Tryd.prog Tryd.lays145_ren := {
  mixed := by kernel_rfl
  f145 := Tryd.func73.trans (congrArg some (by kernel_rfl))
  f217 := Tryd.func137.trans (congrArg some (by kernel_rfl))
  f219 := Tryd.func121.trans (congrArg some (by kernel_rfl))
  f220 := Tryd.func97.trans (congrArg some (by kernel_rfl))
  f224 := Tryd.func139.trans (congrArg some (by kernel_rfl))
  f225 := Tryd.func138.trans (congrArg some (by kernel_rfl))
  f266 := Tryd.func144.trans (congrArg some (by kernel_rfl))
  f267 := Tryd.func140.trans (congrArg some (by kernel_rfl))
  f314 := Tryd.func145.trans (congrArg some (by kernel_rfl))
  t3 := Tryd.underlying3
  a3 := Tryd.isAgg3
  z3 := Tryd.sizeOf3
  v3 := Tryd.zeroValue3
  t4 := Tryd.underlying4
  a4 := Tryd.isAgg4
  z4 := Tryd.sizeOf4
  v4 := Tryd.zeroValue4
  t5 := Tryd.underlying5
  a5 := Tryd.isAgg5
  z5 := Tryd.sizeOf5
  v5 := Tryd.zeroValue5
  t9 := Tryd.underlying9
  a9 := Tryd.isAgg9
  z9 := Tryd.sizeOf9
  v9 := Tryd.zeroValue9
  t46 := Tryd.underlying79
  a46 := Tryd.isAgg79
  z46 := Tryd.sizeOf79
  v46 := Tryd.zeroValue79
  t51 := Tryd.underlying132
  a51 := Tryd.isAgg132
  z51 := Tryd.sizeOf132
  v51 := Tryd.zeroValue132
  t59 := Tryd.underlying80
  a59 := Tryd.isAgg80
  z59 := Tryd.sizeOf80
  v59 := Tryd.zeroValue80
  t146 := Tryd.underlying144
  a146 := Tryd.isAgg144
  z146 := Tryd.sizeOf144
  v146 := Tryd.zeroValue144
  g1 := by kernel_rfl }
open Go.RowKit Go.Lib in
theorem Tryd.strings_Cut (s sep : ByteArray) (m : Int) (w : World) (hs : s.size < 4294967281) (hm : w.cell? ⟨5, 0, none⟩ = some (.int .i64 m)) :
    Calls Tryd.prog 73 #[.string s, .string sep] w fun e w' => e = .returned (.tuple #[.string ⟨(Lib.cut s.data.toList sep.data.toList).1.toArray⟩, .string ⟨(Lib.cut s.data.toList sep.data.toList).2.1.toArray⟩, .bool (Lib.cut s.data.toList sep.data.toList).2.2]) ∧ ∃ n, w' = w.drewN n := Any.strings_Cut Tryd.lays145 s sep m w hs hm
end Go.Proofs
namespace Go.Proofs
open Go.Shelf
def Tryd.lays283_ren : Go.Shelf.Ren := ⟨fun | 283 => 116 | n => n, fun | 3 => 3 | 9 => 9 | 4 => 4 | n => n, fun | n => n⟩
theorem Tryd.lays283 : Go.Proofs.Lays.n283 Tryd.prog Tryd.lays283_ren := {
  mixed := by kernel_rfl
  f283 := Tryd.func116.trans (congrArg some (by kernel_rfl))
  t3 := Tryd.underlying3
  a3 := Tryd.isAgg3
  z3 := Tryd.sizeOf3
  v3 := Tryd.zeroValue3
  t4 := Tryd.underlying4
  a4 := Tryd.isAgg4
  z4 := Tryd.sizeOf4
  v4 := Tryd.zeroValue4
  t9 := Tryd.underlying9
  a9 := Tryd.isAgg9
  z9 := Tryd.sizeOf9
  v9 := Tryd.zeroValue9 }
open Go.Lib in
theorem Tryd.internal_strconv_small (i : Nat) (h : i < 100) (w : World) :
    Calls Tryd.prog 116 #[.int .i64 i] w fun e w' => e = .returned (.string ⟨(Lib.decDigits i).toArray⟩) ∧ w' = w := Any.internal_strconv_small Tryd.lays283 i h w
def Tryd.laysM284_ren : Go.Shelf.Ren := ⟨fun | 284 => 117 | 129 => 133 | 317 => 132 | 318 => 134 | n => n, fun | 53 => 30 | 3 => 3 | 212 => 131 | 0 => 0 | 4 => 4 | 46 => 79 | 5 => 5 | 9 => 9 | n => n, fun | 17 => 4 | n => n⟩
theorem Tryd.laysM284 : Go.Proofs.LaysM.n284 Tryd.prog Tryd.laysM284_ren := {
  mixed := by kernel_rfl
  f129 := Tryd.func133.trans (congrArg some (by kernel_rfl))
  f284 := Tryd.func117.trans (congrArg some (by kernel_rfl))
  f317 := Tryd.func132.trans (congrArg some (by kernel_rfl))
  f318 := Tryd.func134.trans (congrArg some (by kernel_rfl))
  t0 := Tryd.underlying0
  a0 := Tryd.isAgg0
  z0 := Tryd.sizeOf0
  v0 := Tryd.zeroValue0
  t3 := Tryd.underlying3
  a3 := Tryd.isAgg3
  z3 := Tryd.sizeOf3
  v3 := Tryd.zeroValue3
  t4 := Tryd.underlying4
  a4 := Tryd.isAgg4
  z4 := Tryd.sizeOf4
  v4 := Tryd.zeroValue4
  t5 := Tryd.underlying5
  a5 := Tryd.isAgg5
  z5 := Tryd.sizeOf5
  v5 := Tryd.zeroValue5
  t9 := Tryd.underlying9
  a9 := Tryd.isAgg9
  z9 := Tryd.sizeOf9
  v9 := Tryd.zeroValue9
  t46 := Tryd.underlying79
  a46 := Tryd.isAgg79
  z46 := Tryd.sizeOf79
  v46 := Tryd.zeroValue79
  t53 := Tryd.underlying30
  a53 := Tryd.isAgg30
  z53 := Tryd.sizeOf30
  v53 := Tryd.zeroValue30
  t212 := Tryd.underlying131
  a212 := Tryd.isAgg131
  z212 := Tryd.sizeOf131
  v212 := Tryd.zeroValue131
  g17 := by kernel_rfl
  i0 := by kernel_rfl
  i3 := by kernel_rfl
  i4 := by kernel_rfl
  i5 := by kernel_rfl
  i9 := by kernel_rfl
  i46 := by kernel_rfl
  i53 := by kernel_rfl
  i212 := by kernel_rfl
  m17 := by kernel_rfl }
open Go.Lib in
theorem Tryd.internal_strconv_numDigits (u : Nat) (h1 : 1 ≤ u) (h2 : u < 18446744073709551616) (w : World) (htab : Lib.TabIs Tryd.prog w "internal/strconv.uint64pow10" .u64 Lib.pow10Tab) :
    Calls Tryd.prog 117 #[.int .u64 u] w fun e w' => e = .returned (.int .i64 (Lib.nDigits u)) ∧ w' = w := Any.internal_strconv_numDigits Tryd.laysM284 u h1 h2 w htab
def Tryd.lays285_ren : Go.Shelf.Ren := ⟨fun | 285 => 118 | n => n, fun | 37 => 71 | 53 => 30 | 3 => 3 | 4 => 4 | 51 => 132 | 9 => 9 | 5 => 5 | 0 => 0 | n => n, fun | n => n⟩
theorem Tryd.lays285 : Go.Proofs.Lays.n285 Tryd.prog Tryd.lays285_ren := {
  mixed := by kernel_rfl
  f285 := Tryd.func118.trans (congrArg some (by kernel_rfl))
  t0 := Tryd.underlying0
  a0 := Tryd.isAgg0
  z0 := Tryd.sizeOf0
  v0 := Tryd.zeroValue0
  t3 := Tryd.underlying3
  a3 := Tryd.isAgg3
  z3 := Tryd.sizeOf3
  v3 := Tryd.zeroValue3
  t4 := Tryd.underlying4
  a4 := Tryd.isAgg4
  z4 := Tryd.sizeOf4
  v4 := Tryd.zeroValue4
  t5 := Tryd.underlying5
  a5 := Tryd.isAgg5
  z5 := Tryd.sizeOf5
  v5 := Tryd.zeroValue5
  t9 := Tryd.underlying9
  a9 := Tryd.isAgg9
  z9 := Tryd.sizeOf9
  v9 := Tryd.zeroValue9
  t37 := Tryd.underlying71
  a37 := Tryd.isAgg71
  z37 := Tryd.sizeOf71
  v37 := Tryd.zeroValue71
  t51 := Tryd.underlying132
  a51 := Tryd.isAgg132
  z51 := Tryd.sizeOf132
  v51 := Tryd.zeroValue132
  t53 := Tryd.underlying30
  a53 := Tryd.isAgg30
  z53 := Tryd.sizeOf30
  v53 := Tryd.zeroValue30 }
open Go.RowKit Go.Sort Go.Lib in
theorem Tryd.internal_strconv_formatBase10 (blk off cap : Nat) (u : Nat) (d : Array UInt8) (w : World) (hH : Holds (fun (b : UInt8) => Value.int .u8 (b.toNat : Int)) w blk off d) (hu : u < 10 ^ d.size) (hu64 : u < 18446744073709551616) (hsz : d.size < 4611686018427387904) :
    Calls Tryd.prog 118 #[.slice (some ⟨blk, off, none⟩) d.size cap, .int .u64 u] w fun e w' =>
      e = .returned (.tuple #[]) ∧ ∃ (n v' : Nat) (dk : Array UInt8), w' = (putRow (fun (b : UInt8) => Value.int .u8 (b.toNat : Int)) w blk off dk).drewN n ∧ FmtInv d.size u 0 v' dk := Any.internal_strconv_formatBase10 Tryd.lays285 blk off cap u d w hH hu hu64 hsz
def Tryd.laysPu14_ren : Go.Shelf.Ren := ⟨fun | 14 => 63 | 16 => 90 | 17 => 91 | 19 => 110 | 20 => 111 | 21 => 112 | 22 => 113 | 23 => 114 | 24 => 115 | 25 => 130 | 27 => 77 | 26 => 131 | 28 => 99 | 29 => 123 | 30 => 116 | 31 => 117 | 32 => 118 | 33 => 119 | 35 => 133 | 34 => 132 | 36 => 134 | 37 => 135 | 38 => 136 | 39 => 143 | 40 => 72 | n => n, fun | 9 => 9 | 3 => 3 | 22 => 30 | 24 => 67 | 25 => 68 | 4 => 4 | 34 => 107 | 5 => 5 | 36 => 79 | 37 => 71 | 0 => 0 | 39 => 109 | 21 => 21 | 44 => 127 | 47 => 100 | 50 => 142 | 48 => 140 | 2 => 2 | 52 => 112 | 55 => 114 | 59 => 131 | 60 => 132 | 20 => 20 | 61 => 133 | 65 => 146 | 66 => 99 | 67 => 92 | n => n, fun | 0 => 2 | 1 => 3 | 2 => 4 | 3 => 8 | 4 => 1 | n => n⟩
theorem Tryd.laysPu14 : Go.Proofs.LaysPu.n14 Tryd.prog Tryd.laysPu14_ren := {
  mixed := by kernel_rfl
  f14 := Tryd.func63.trans (congrArg some (by kernel_rfl))
  f16 := Tryd.func90.trans (congrArg some (by kernel_rfl))
  f17 := Tryd.func91.trans (congrArg some (by kernel_rfl))
  f19 := Tryd.func110.trans (congrArg some (by kernel_rfl))
  f20 := Tryd.func111.trans (congrArg some (by kernel_rfl))
  f21 := Tryd.func112.trans (congrArg some (by kernel_rfl))
  f22 := Tryd.func113.trans (congrArg some (by kernel_rfl))
  f23 := Tryd.func114.trans (congrArg some (by kernel_rfl))
  f24 := Tryd.func115.trans (congrArg some (by kernel_rfl))
  f25 := Tryd.func130.trans (congrArg some (by kernel_rfl))
  f26 := Tryd.func131.trans (congrArg some (by kernel_rfl))
  f27 := Tryd.func77.trans (congrArg some (by kernel_rfl))
  f28 := Tryd.func99.trans (congrArg some (by kernel_rfl))
  f29 := Tryd.func123.trans (congrArg some (by kernel_rfl))
  f30 := Tryd.func116.trans (congrArg some (by kernel_rfl))
  f31 := Tryd.func117.trans (congrArg some (by kernel_rfl))
  f32 := Tryd.func118.trans (congrArg some (by kernel_rfl))
  f33 := Tryd.func119.trans (congrArg some (by kernel_rfl))
  f34 := Tryd.func132.trans (congrArg some (by kernel_rfl))
  f35 := Tryd.func133.trans (congrArg some (by kernel_rfl))
  f36 := Tryd.func134.trans (congrArg some (by kernel_rfl))
  f37 := Tryd.func135.trans (congrArg some (by kernel_rfl))
  f38 := Tryd.func136.trans (congrArg some (by kernel_rfl))
  f39 := Tryd.func143.trans (congrArg some (by kernel_rfl))
  f40 := Tryd.func72.trans (congrArg some (by kernel_rfl))
  t0 := Tryd.underlying0
  a0 := Tryd.isAgg0
  z0 := Tryd.sizeOf0
  v0 := Tryd.zeroValue0
  i0 := by kernel_rfl
  t2 := Tryd.underlying2
  a2 := Tryd.isAgg2
  z2 := Tryd.sizeOf2
  v2 := Tryd.zeroValue2
  i2 := by kernel_rfl
  t3 := Tryd.underlying3
  a3 := Tryd.isAgg3
  z3 := Tryd.sizeOf3
  v3 := Tryd.zeroValue3
  i3 := by kernel_rfl
  t4 := Tryd.underlying4
  a4 := Tryd.isAgg4
  z4 := Tryd.sizeOf4
  v4 := Tryd.zeroValue4
  i4 := by kernel_rfl
  t5 := Tryd.underlying5
  a5 := Tryd.isAgg5
  z5 := Tryd.sizeOf5
  v5 := Tryd.zeroValue5
  i5 := by kernel_rfl
  t9 := Tryd.underlying9
  a9 := Tryd.isAgg9
  z9 := Tryd.sizeOf9
  v9 := Tryd.zeroValue9
  i9 := by kernel_rfl
  t20 := Tryd.underlying20
  a20 := Tryd.isAgg20
  z20 := Tryd.sizeOf20
  v20 := Tryd.zeroValue20
  i20 := by kernel_rfl
  t21 := Tryd.underlying21
  a21 := Tryd.isAgg21
  z21 := Tryd.sizeOf21
  v21 := Tryd.zeroValue21
  i21 := by kernel_rfl
  t22 := Tryd.underlying30
  a22 := Tryd.isAgg30
  z22 := Tryd.sizeOf30
  v22 := Tryd.zeroValue30
  i22 := by kernel_rfl
  t24 := Tryd.underlying67
  a24 := Tryd.isAgg67
  z24 := Tryd.sizeOf67
  v24 := Tryd.zeroValue67
  i24 := by kernel_rfl
  t25 := Tryd.underlying68
  a25 := Tryd.isAgg68
  z25 := Tryd.sizeOf68
  v25 := Tryd.zeroValue68
  i25 := by kernel_rfl
  t34 := Tryd.underlying107
  a34 := Tryd.isAgg107
  z34 := Tryd.sizeOf107
  v34 := Tryd.zeroValue107
  i34 := by kernel_rfl
  c34 := by kernel_rfl
  t36 := Tryd.underlying79
  a36 := Tryd.isAgg79
  z36 := Tryd.sizeOf79
  v36 := Tryd.zeroValue79
  i36 := by kernel_rfl
  t37 := Tryd.underlying71
  a37 := Tryd.isAgg71
  z37 := Tryd.sizeOf71
  v37 := Tryd.zeroValue71
  i37 := by kernel_rfl
  t39 := Tryd.underlying109
  a39 := Tryd.isAgg109
  z39 := Tryd.sizeOf109
  v39 := Tryd.zeroValue109
  i39 := by kernel_rfl
  t44 := Tryd.underlying127
  a44 := Tryd.isAgg127
  z44 := Tryd.sizeOf127
  v44 := Tryd.zeroValue127
  i44 := by kernel_rfl
  t47 := Tryd.underlying100
  a47 := Tryd.isAgg100
  z47 := Tryd.sizeOf100
  v47 := Tryd.zeroValue100
  i47 := by kernel_rfl
  t48 := Tryd.underlying140
  a48 := Tryd.isAgg140
  z48 := Tryd.sizeOf140
  v48 := Tryd.zeroValue140
  i48 := by kernel_rfl
  t50 := Tryd.underlying142
  a50 := Tryd.isAgg142
  z50 := Tryd.sizeOf142
  v50 := Tryd.zeroValue142
  i50 := by kernel_rfl
  t52 := Tryd.underlying112
  a52 := Tryd.isAgg112
  z52 := Tryd.sizeOf112
  v52 := Tryd.zeroValue112
  i52 := by kernel_rfl
  t55 := Tryd.underlying114
  a55 := Tryd.isAgg114
  z55 := Tryd.sizeOf114
  v55 := Tryd.zeroValue114
  i55 := by kernel_rfl
  t59 := Tryd.underlying131
  a59 := Tryd.isAgg131
  z59 := Tryd.sizeOf131
  v59 := Tryd.zeroValue131
  i59 := by kernel_rfl
  t60 := Tryd.underlying132
  a60 := Tryd.isAgg132
  z60 := Tryd.sizeOf132
  v60 := Tryd.zeroValue132
  i60 := by kernel_rfl
  t61 := Tryd.underlying133
  a61 := Tryd.isAgg133
  z61 := Tryd.sizeOf133
  t65 := Tryd.underlying146
  a65 := Tryd.isAgg146
  z65 := Tryd.sizeOf146
  v65 := Tryd.zeroValue146
  i65 := by kernel_rfl
  t66 := Tryd.underlying99
  a66 := Tryd.isAgg99
  z66 := Tryd.sizeOf99
  v66 := Tryd.zeroValue99
  i66 := by kernel_rfl
  t67 := Tryd.underlying92
  a67 := Tryd.isAgg92
  z67 := Tryd.sizeOf92
  v67 := Tryd.zeroValue92
  i67 := by kernel_rfl
  g0 := by kernel_rfl
  m0 := by kernel_rfl
  g1 := by kernel_rfl
  m1 := by kernel_rfl
  g2 := by kernel_rfl
  m2 := by kernel_rfl
  g3 := by kernel_rfl
  m3 := by kernel_rfl
  g4 := by kernel_rfl
  m4 := by kernel_rfl }
open Go.RowKit in
theorem Tryd.strconv_ParseUint_10_at64_ok (s : ByteArray) (hmax : s.size ≤ 9223372036854775806) (u : Nat) (h : Lib.parseUintB 64 s.data.toList = .ok u) (w : World) :
    Calls Tryd.prog 63 #[.string s, .int .i64 10, .int .i64 64] w fun e w' => e = .returned (.tuple #[.int .u64 u, .nilIface]) ∧ (w' = w ∨ w' = Lib.bytesWorld w 5 s) := Any.strconv_ParseUint_10_at64_ok Tryd.laysPu14 s hmax u h w
open Go.RowKit in
theorem Tryd.strconv_ParseUint_10_at64_range (s : ByteArray) (hlim : s.size ≤ 281474976710656) (h : Lib.parseUintB 64 s.data.toList = .range) (ev : Value) (w : World) (hv : w.cell? ⟨3, 0, none⟩ = some ev) (hev : ev = .nilIface ∨ ∃ te pe, ev = .iface te pe) :
    Calls Tryd.prog 63 #[.string s, .int .i64 10, .int .i64 64] w fun e w' => ∃ N, e = .returned (.tuple #[.int .u64 18446744073709551615, .iface 109 (.pointer (some ⟨N, 0, none⟩))]) ∧ w.heap.size ≤ N ∧ w'.heap[N]? = some (.cells #[.string ⟨#[80, 97, 114, 115, 101, 85, 105, 110, 116]⟩, .string s, ev] 127 (0, 0)) ∧ Below w.heap.size w w' := Any.strconv_ParseUint_10_at64_range Tryd.laysPu14 s hlim h ev w hv hev
end Go.Proofs
namespace Go.Proofs.YtckcadhjpjjmjaaDoor
open Go.RowKit

/-- The text of some bytes. -/
abbrev txt (l : List UInt8) : ByteArray := ⟨l.toArray⟩
abbrev byt (s : ByteArray) : List UInt8 := s.data.toList
theorem txt_byt (s : ByteArray) : txt (byt s) = s := by cases s; simp [byt]
theorem byt_txt (l : List UInt8) : byt (txt l) = l := by show l.toArray.toList = l; rw [List.toList_toArray]
theorem byt_len (s : ByteArray) : (byt s).length = s.size := by show s.data.toList.length = s.data.size; rw [Array.length_toList]
theorem txt_size (l : List UInt8) : (txt l).size = l.length := by simp [ByteArray.size]

section
variable {P : Program} {ok : Nat → Prop} {base : Nat} {w w' : World} {E : TypeId} {v : Value} {xs ys : List UInt8} {A : Option Addr} {n m c : Nat}

theorem src8 {ok' : Nat → Prop} (h : kU8.Src ok w A m xs) : kU8.Src ok' w A m xs := let ⟨h1, css, he, hc⟩ := h; ⟨h1, css, ⟨he.1, fun i x cs hx hcs => he.2 i x cs hx hcs⟩, hc⟩
theorem row8 {ok' : Nat → Prop} (h : kU8.Row ok w A n c xs) (hk : ∀ k, k < w.heap.size → ok k → ok' k) : kU8.Row ok' w A n c xs :=
  h.bound.more fun k hk' => hk k hk'.2 hk'.1
theorem row_bytes (h : kU8.Row ok w A n c xs) (hn : 0 < n) : ∃ b o, A = some ⟨b, o, none⟩ ∧ ok b ∧ b < w.heap.size ∧ ∀ i x, xs[i]? = some x → w.cell? ⟨b, o + i, none⟩ = some (bv x) := by
  obtain ⟨b, o, e, hb, hlt, hc⟩ := h.2.2.2 hn
  refine ⟨b, o, e, hb, hlt, fun i x hx => ?_⟩
  obtain ⟨cs, h1, h2⟩ := hc i x hx
  rw [h1.1] at h2
  have := h2 0 (bv x) rfl
  simpa [kU8, Kd.cell] using this
/-- string(bytes) -/
theorem row_string {S D : TypeId} (hS : P.underlying S = some (.slice E)) (hE : P.underlying E = some (.int .u8)) (hD : P.underlying D = some .string) (h : kU8.Row ok w A n c xs) :
    (convert S D (.slice A n c)).run P w = .ok (.string (txt xs)) w := by
  rcases Nat.eq_zero_or_pos n with h0 | h0
  · have hx : xs = [] := List.eq_nil_of_length_eq_zero (by rw [h.1]; exact h0)
    subst hx h0
    cases A with
    | none => exact run_convert_bytes_nil w S E hS hE 0 c D hD
    | some a =>
      have hl : (loadCells a 0).run P w = .ok (([] : List Int).map (Value.int .u8)).toArray w := by simp [loadCells, loadCellsFrom]
      rw [run_convert_bytes_string w S D E _ 0 c hS hE hD, run_bytesToString w a 0 c [] hl]
      rfl
  · obtain ⟨b, o, rfl, _, _, hc⟩ := row_bytes h h0
    have hlen : (xs.map fun x => (x.toNat : Int)).length = n := by simpa using h.1
    rw [run_convert_bytes_arg w S E hS hE b o n c (xs.map fun x => (x.toNat : Int)) hlen (fun i hi => ?_) D hD]
    · congr 2
      simp only [strOfNums, txt]
      congr 2
      rw [List.map_map]
      conv => rhs; rw [← List.map_id xs]
      apply List.map_congr_left
      intro x _
      simp
    · have hx : i < xs.length := by rw [h.1]; exact hi
      rw [hc i _ (List.getElem?_eq_getElem hx)]
      simp [List.getElem?_eq_getElem hx]
/-- []byte(text) -/
theorem bytes_new (w : World) (E : TypeId) (s : ByteArray) (hs : s.size ≤ 9223372036854775807) : kU8.Row (fun k => k = w.heap.size) (Lib.bytesWorld w E s) (some ⟨w.heap.size, 0, none⟩) s.size (grownCap w s.size 0 E) (byt s) := by
  refine ⟨byt_len s, grownCap_ge _ _ _ _, grownCap_le_maxLen _ _ _ _ (by simp only [maxLen]; omega), fun hn => ⟨_, 0, rfl, rfl, by rw [Lib.bytesWorld_size]; omega, fun i x hx => ⟨[bv x], ⟨rfl, trivial⟩, fun j u hu => ?_⟩⟩⟩
  have hi : i < s.size := by have := (List.getElem?_eq_some_iff.1 hx).1; rwa [byt_len] at this
  match j, hu with
  | 0, hu =>
    simp at hu
    subst hu
    have := Lib.bytesWorld_cell w E s i hi
    simp only [kU8, Kd.cell, Nat.mul_one, Nat.zero_add, Nat.add_zero]
    rw [this, List.getD_eq_getElem?_getD]
    simp only [byt] at hx
    rw [hx]
    rfl
  | j + 1, hu => simp at hu
theorem bytesWorld_below (w : World) (E : TypeId) (s : ByteArray) : Below w.heap.size w (Lib.bytesWorld w E s) := by
  refine ⟨?_, ?_, ?_, by rw [Lib.bytesWorld_size]; omega, fun k hk => Lib.bytesWorld_at_old w E s k hk⟩ <;> simp [Lib.bytesWorld, World.freeze, World.drew, World.alloc, -World.alloc_eq, -World.drew_eq]
theorem wpList_tobytes {ops : Array Oper} {rest : List Oper} {op : Oper} {a : Act} {Q : Exit → Act → World → Prop} (hgd : op.guard = none) (S D : TypeId) (x : Operand) (ho : op.op = .convert S D x) (s : ByteArray) (hx : a.eval x = .string s)
    (hS : P.underlying S = some .string) (hD : P.underlying D = some (.slice E)) (hE : P.underlying E = some (.int .u8)) (hs : s.size ≤ 9223372036854775807) (H : Nat) (hH : w.heap.size = H)
    (k : ∀ c w', kU8.Row (fun k => k = H) w' (some ⟨H, 0, none⟩) s.size c (byt s) → Below H w w' → H < w'.heap.size → wpList P ops Q rest (a.put op.dst (.slice (some ⟨H, 0, none⟩) s.size c)) w') : wpList P ops Q (op :: rest) a w := by
  subst hH
  refine wpList_plain hgd fun K hK => ?_
  unfold Oper.wp execOp
  simp only [ho, hx, Sem.run_bind, Sem.run_pure, Result.andThen_ok, Lib.run_convert_string_bytes w S D E s hS hD hE]
  exact hK _ _ (k _ _ (bytes_new w E s hs) (bytesWorld_below w E s) (by rw [Lib.bytesWorld_size]; omega))

/-- append of a text's bytes. -/
theorem App.append_str {T U ty : TypeId} (hT : P.underlying T = some (.slice E)) (hU : P.underlying U = some .string) (hinfo : (P.info? E).map (fun i => (i.zero, i.size, i.bytes)) = some (some (.int .u8 0), 1, 1))
    (h : kU8.App ok base w E v xs) (hbase : base ≤ w.heap.size) (s : ByteArray) (hlen : xs.length + s.size ≤ 140737488355328) :
    ∃ v' w', (Builtin.append_ #[T, U] ty #[v, .string s]).run P w = .ok v' w' ∧ kU8.App ok base w' E v' (xs ++ byt s) ∧ (0 < s.size ∨ kU8.Own ok base w E v xs → kU8.Own ok base w' E v' (xs ++ byt s)) ∧ Below base w w' ∧
      (∀ k, k < w.heap.size → some k ≠ v.ownBlock → w'.heap[k]? = w.heap[k]?) ∧ (v'.ownBlock = v.ownBlock ∨ ∃ k, v'.ownBlock = some k ∧ w.heap.size ≤ k) := by
  obtain ⟨i0, hi, hzz⟩ := Option.map_eq_some_iff.1 hinfo
  simp only [Prod.mk.injEq] at hzz
  obtain ⟨hz0, hz1, hz2⟩ := hzz
  have hsl : (Lib.strCells s).length = s.size := Lib.strCells_length s
  have hcel : ∀ l : List UInt8, (l.map fun x => [bv x]).flatten = l.map bv := fun l => by induction l <;> simp_all
  have hels : ∀ (W : World) (o : Nat → Prop) (l : List UInt8), kU8.Els o W l (l.map fun x => [bv x]) := fun W o l =>
    ⟨by simp, fun i x cs hx hc => by simp [List.getElem?_map, hx] at hc; subst hc; exact ⟨rfl, trivial⟩⟩
  have hstr : Lib.strCells s = (byt s).map bv := rfl
  have fin : ∀ (v' : Value) (w' : World), w'.ownsRow base E 1 v' (xs.length + s.size) (xs.map bv ++ Lib.strCells s) → kU8.Own ok base w' E v' (xs ++ byt s) := by
    intro v' w' ho
    refine ⟨(xs ++ byt s).map fun x => [bv x], hels _ _ _, ?_⟩
    rw [hcel, List.map_append, List.length_append, byt_len]
    exact ho
  have new : ∀ (cap : Nat) (Wn : World) (cells : Array Value), Wn = w.drew.alloc (.cells cells E) → xs.length + s.size ≤ cap → cap ≤ maxLen → cells.size = cap → cells.toList.take (xs.length + s.size) = xs.map bv ++ Lib.strCells s →
      Wn.ownsRow base E 1 (.slice (some ⟨w.heap.size, 0, none⟩) (xs.length + s.size) cap) (xs.length + s.size) (xs.map bv ++ Lib.strCells s) ∧ Below base w Wn ∧ (∀ k, k < w.heap.size → Wn.heap[k]? = w.heap[k]?) := by
    rintro cap Wn cells rfl h1 h2 h3 h4
    refine ⟨⟨by simp [hsl], .inr ⟨w.heap.size, cap, cells, rfl, hbase, heap_alloc_new w.drew _, h1, h2, by simpa using h3, by simpa using h4⟩⟩, ⟨rfl, rfl, rfl, by simp, fun k hk => Below.heap_alloc w.drew _ k (by show k < w.heap.size; omega)⟩, fun k hk => Below.heap_alloc w.drew _ k hk⟩
  have take_ok : ∀ (a b : List Value) (z : Array Value), a.length = xs.length → b.length = s.size → (a.toArray ++ b.toArray ++ z).toList.take (xs.length + s.size) = a ++ b := by
    intro a b z ha hb
    simp only [Array.toList_append, List.append_assoc]
    rw [← List.append_assoc, show xs.length + s.size = (a ++ b).length from by simp [ha, hb]]
    exact List.take_left
  have size_ok : ∀ (a b : List Value) (cap : Nat), a.length = xs.length → b.length = s.size → xs.length + s.size ≤ cap → (a.toArray ++ b.toArray ++ Builtin.zeroCells (Value.int .u8 0).cells (cap - (xs.length + s.size))).size = cap := by
    intro a b cap ha hb hc
    have hz1 : (Value.int IntKind.u8 0).cells.size = 1 := rfl
    simp only [Array.size_append, List.size_toArray, size_zeroCells, hz1, ha, hb]
    omega
  have grow : ∀ (b : Addr) (cap : Nat), (∀ j u, (xs.map bv)[j]? = some u → w.cell? (b.add j) = some u) → cap < xs.length + s.size →
      ∃ v' w', (Builtin.append_ #[T, U] ty #[.slice (some b) xs.length cap, .string s]).run P w = .ok v' w' ∧ w'.ownsRow base E 1 v' (xs.length + s.size) (xs.map bv ++ Lib.strCells s) ∧ Below base w w' ∧ (∀ k, k < w.heap.size → w'.heap[k]? = w.heap[k]?) ∧ v'.ownBlock = some w.heap.size := by
    intro b cap hc hlt
    have hr := Lib.run_append_grow_string (P := P) w T U ty E i0 (.int .u8 0) hT hU hi hz0 b xs.length cap (xs.map bv) (by simp [hz1]) hc s hlt (by omega) (by rw [hz2]; exact growslice_fits (by omega) (by omega))
    have hge := grownCap_ge w (xs.length + s.size) cap E
    have hle := grownCap_le_maxLen w (xs.length + s.size) cap E (by simp only [maxLen]; omega)
    obtain ⟨n1, n2, n3⟩ := new _ _ _ rfl hge hle (size_ok _ _ _ (by simp) hsl hge) (take_ok _ _ _ (by simp) hsl)
    exact ⟨_, _, hr, n1, n2, n3, rfl⟩
  have zero : s.size = 0 → ∀ Av nv cv, v = .slice Av nv cv → nv ≤ cv → (Builtin.append_ #[T, U] ty #[v, .string s]).run P w = .ok v w := by
    intro h0 Av nv cv hv hnc
    have hf := Lib.run_firstCells_string (P := P) w 1 s
    have he : Lib.strCells s = [] := List.eq_nil_of_length_eq_zero (by rw [hsl]; exact h0)
    rw [h0, he] at hf
    subst hv
    cases Av <;> simp [Builtin.append_, run_underlying hT, run_underlying hU, sizeOf, typeInfo, hi, hz1, Builtin.lenOf, h0, hnc, hf, storeCells]
  by_cases h0 : s.size = 0
  · have hy : byt s = [] := List.eq_nil_of_length_eq_zero (by rw [byt_len]; exact h0)
    rw [hy, List.append_nil]
    have hf : ∃ Av nv cv, v = .slice Av nv cv ∧ nv ≤ cv := by
      rcases h with ⟨css, _, ho⟩ | ⟨Av, rfl, hr⟩
      · rcases ho.2 with ⟨rfl, h0⟩ | ⟨g, cap, cur, rfl, _, _, hnc, _⟩
        · exact ⟨_, _, _, rfl, Nat.le_refl _⟩
        · exact ⟨_, _, _, rfl, hnc⟩
      · exact ⟨_, _, _, rfl, Nat.le_refl _⟩
    obtain ⟨Av, nv, cv, hv, hnc⟩ := hf
    exact ⟨v, w, zero h0 Av nv cv hv hnc, h, fun hh => hh.resolve_left (by omega), Below.refl _ _, fun _ _ _ => rfl, .inl rfl⟩
  · have wrap : ∀ {v' : Value} {w' : World}, w'.ownsRow base E 1 v' (xs.length + s.size) (xs.map bv ++ Lib.strCells s) → kU8.App ok base w' E v' (xs ++ byt s) ∧ (0 < s.size ∨ kU8.Own ok base w E v xs → kU8.Own ok base w' E v' (xs ++ byt s)) := fun ho => ⟨.inl (fin _ _ ho), fun _ => fin _ _ ho⟩
    have nilcase : (Builtin.append_ #[T, U] ty #[.slice none 0 0, .string s]).run P w = .ok (.slice (some ⟨w.heap.size, 0, none⟩) s.size (grownCap w s.size 0 E)) (w.drew.alloc (.cells (([] : List Value).toArray ++ (Lib.strCells s).toArray ++ Builtin.zeroCells (Value.int .u8 0).cells (grownCap w s.size 0 E - (0 + s.size))) E)) := by
      have hr := run_append_nil_string (P := P) w T U ty E i0 (.int .u8 0) hT hU hi hz0 s (by omega) (by omega) (by rw [hz2]; omega)
      have e1 : (s.data.map fun b => Value.int .u8 b.toNat) = (Lib.strCells s).toArray := by
        apply Array.ext'
        simp [Lib.strCells]
      rw [e1] at hr
      simpa using hr
    have fromnil : xs = [] → v = .slice none 0 0 → ∃ v' w', (Builtin.append_ #[T, U] ty #[v, .string s]).run P w = .ok v' w' ∧ w'.ownsRow base E 1 v' (xs.length + s.size) (xs.map bv ++ Lib.strCells s) ∧ Below base w w' ∧ (∀ k, k < w.heap.size → w'.heap[k]? = w.heap[k]?) ∧ v'.ownBlock = some w.heap.size := by
      rintro rfl rfl
      have hge := grownCap_ge w s.size 0 E
      have hle := grownCap_le_maxLen w s.size 0 E (by simp only [maxLen]; omega)
      obtain ⟨n1, n2, n3⟩ := new (grownCap w s.size 0 E) _ _ rfl (by simpa using hge) hle (size_ok [] _ _ rfl hsl (by simpa using hge)) (take_ok [] _ _ rfl hsl)
      exact ⟨_, _, nilcase, by simpa using n1, n2, n3, rfl⟩
    rcases h with ⟨css, he, ho⟩ | ⟨Av, rfl, hrow⟩
    · have hcss : css.flatten = xs.map bv := by
        have : css = xs.map fun x => [bv x] := by
          apply List.ext_getElem?
          intro i
          rw [List.getElem?_map]
          by_cases hi' : i < xs.length
          · have h1 : xs[i]? = some xs[i] := List.getElem?_eq_getElem hi'
            have h2 : css[i]? = some (css[i]'(by rw [he.1]; exact hi')) := List.getElem?_eq_getElem _
            rw [h2, h1, (he.2 i _ _ h1 h2).1]
            rfl
          · rw [List.getElem?_eq_none (by rw [he.1]; omega), List.getElem?_eq_none (by omega)]; rfl
        rw [this, hcel]
      rw [hcss] at ho
      rcases ho.2 with ⟨rfl, h0'⟩ | ⟨g, cap, cur, rfl, hbg, hg, hnc, hcm, hcs, htake⟩
      · obtain ⟨v', w', hr, h1, h2, h3, h4⟩ := fromnil (List.eq_nil_of_length_eq_zero h0') rfl
        exact ⟨v', w', hr, (wrap h1).1, (wrap h1).2, h2, fun k hk _ => h3 k hk, .inr ⟨_, h4, Nat.le_refl _⟩⟩
      · have hcs' : cur.size = cap := by simpa [kU8, Kd.cell] using hcs
        have ht' : cur.toList.take xs.length = xs.map bv := by simpa [kU8, Kd.cell] using htake
        by_cases hroom : xs.length + s.size ≤ cap
        · have hr := Lib.run_append_room_string (P := P) w T U ty E i0 hT hU hi hz1 g xs.length cap cur hg s hroom (by omega)
          have ho' : (w.setRow g (cur.toList.take xs.length ++ Lib.strCells s ++ cur.toList.drop (xs.length + s.size)).toArray).ownsRow base E 1 (.slice (some ⟨g, 0, none⟩) (xs.length + s.size) cap) (xs.length + s.size) (xs.map bv ++ Lib.strCells s) := by
            refine ⟨by simp [hsl], .inr ⟨g, cap, _, rfl, hbg, setRow_heap w g cur _ E _ hg, hroom, hcm, ?_, ?_⟩⟩
            · simp only [List.size_toArray, List.length_append, List.length_take, List.length_drop, Array.length_toList, hsl]
              omega
            · rw [ht', show (xs.length + s.size) * 1 = (xs.map bv ++ Lib.strCells s).length from by simp [hsl]]
              exact List.take_left
          have hother : ∀ k, some k ≠ some g → (w.setRow g (cur.toList.take xs.length ++ Lib.strCells s ++ cur.toList.drop (xs.length + s.size)).toArray).heap[k]? = w.heap[k]? := fun k hk => setRow_other w g k _ (fun e => hk (by rw [e]))
          exact ⟨_, _, hr, (wrap ho').1, (wrap ho').2, ⟨rfl, rfl, rfl, by simp, fun k hk => hother k (fun e => by have := Option.some.inj e; omega)⟩, fun k _ hk => hother k (by simpa [Value.ownBlock] using hk), .inl rfl⟩
        · obtain ⟨v', w', hr, h1, h2, h3, h4⟩ := grow ⟨g, 0, none⟩ cap (ho.cells (g := g) rfl) (by omega)
          exact ⟨v', w', hr, (wrap h1).1, (wrap h1).2, h2, fun k hk _ => h3 k hk, .inr ⟨_, h4, Nat.le_refl _⟩⟩
    · cases Av with
      | none =>
        have hx : xs = [] := by
          rcases Nat.eq_zero_or_pos xs.length with h' | h'
          · exact List.eq_nil_of_length_eq_zero h'
          · obtain ⟨b', o', e, _⟩ := hrow.2.2.2 h'; cases e
        subst hx
        obtain ⟨v', w', hr, h1, h2, h3, h4⟩ := fromnil rfl rfl
        exact ⟨v', w', hr, (wrap h1).1, (wrap h1).2, h2, fun k hk _ => h3 k hk, .inr ⟨_, h4, Nat.le_refl _⟩⟩
      | some A0 =>
        obtain ⟨v', w', hr, h1, h2, h3, h4⟩ := grow A0 xs.length (fun j u hu => by
          have hj : j < xs.length := by have := (List.getElem?_eq_some_iff.1 hu).1; simpa using this
          obtain ⟨b', o', e, _, _, hc⟩ := row_bytes hrow (by omega)
          have e := Option.some.inj e
          subst e
          rw [Addr.add_mid]
          rw [List.getElem?_map, List.getElem?_eq_getElem hj] at hu
          have hu := Option.some.inj hu
          rw [← hu]
          exact hc j _ (List.getElem?_eq_getElem hj)) (by omega)
        exact ⟨v', w', hr, (wrap h1).1, (wrap h1).2, h2, fun k hk _ => h3 k hk, .inr ⟨_, h4, Nat.le_refl _⟩⟩

theorem wp_app_str {op : Oper} {a : Act} {K : Act → World → Prop} {Q : Exit → Act → World → Prop} (sl x : Operand) (T U : TypeId) (ho : op.op = .call { callee := .builtin .append, args := #[sl, x], argTypes := #[T, U] })
    (hT : P.underlying T = some (.slice E)) (hU : P.underlying U = some .string) (hinfo : (P.info? E).map (fun i => (i.zero, i.size, i.bytes)) = some (some (.int .u8 0), 1, 1)) (s : ByteArray) (hs : a.eval sl = v) (hx : a.eval x = .string s)
    (h : kU8.App ok base w E v xs) (hbase : base ≤ w.heap.size) (hlen : xs.length + s.size ≤ 140737488355328)
    (k : ∀ v' w', kU8.App ok base w' E v' (xs ++ byt s) → (0 < s.size ∨ kU8.Own ok base w E v xs → kU8.Own ok base w' E v' (xs ++ byt s)) → Below base w w' → (∀ k, k < w.heap.size → some k ≠ v.ownBlock → w'.heap[k]? = w.heap[k]?) →
      (v'.ownBlock = v.ownBlock ∨ ∃ k, v'.ownBlock = some k ∧ w.heap.size ≤ k) → K (a.put op.dst v') w') : op.wp P a w K Q := by
  obtain ⟨v', w', hrun, h1, h2, h3, h4, h5⟩ := App.append_str (P := P) (T := T) (U := U) (ty := op.type) hT hU hinfo h hbase s hlen
  unfold Oper.wp execOp
  simp only [ho, resolve, invoke, builtin, Sem.run_bind, Sem.run_pure, Result.andThen_ok, List.map_toArray, List.map_cons, List.map_nil, hs, hx, hrun]
  exact k v' w' h1 h2 h3 h4 h5
theorem wpList_app_str {ops : Array Oper} {rest : List Oper} {op : Oper} {a : Act} {Q : Exit → Act → World → Prop} (hgd : op.guard = none) (sl x : Operand) (T U : TypeId) (ho : op.op = .call { callee := .builtin .append, args := #[sl, x], argTypes := #[T, U] })
    (hT : P.underlying T = some (.slice E)) (hU : P.underlying U = some .string) (hinfo : (P.info? E).map (fun i => (i.zero, i.size, i.bytes)) = some (some (.int .u8 0), 1, 1)) (s : ByteArray) (hs : a.eval sl = v) (hx : a.eval x = .string s)
    (h : kU8.App ok base w E v xs) (hbase : base ≤ w.heap.size) (hlen : xs.length + s.size ≤ 140737488355328)
    (k : ∀ v' w', kU8.App ok base w' E v' (xs ++ byt s) → (0 < s.size ∨ kU8.Own ok base w E v xs → kU8.Own ok base w' E v' (xs ++ byt s)) → Below base w w' → (∀ k, k < w.heap.size → some k ≠ v.ownBlock → w'.heap[k]? = w.heap[k]?) →
      (v'.ownBlock = v.ownBlock ∨ ∃ k, v'.ownBlock = some k ∧ w.heap.size ≤ k) → wpList P ops Q rest (a.put op.dst v') w') : wpList P ops Q (op :: rest) a w :=
  wpList_plain hgd fun _ hK => wp_app_str sl x T U ho hT hU hinfo s hs hx h hbase hlen fun v' w' h1 h2 h3 h4 h5 => hK _ _ (k v' w' h1 h2 h3 h4 h5)
theorem step_app_str {ops : Array Oper} {op : Oper} {a : Act} {K : Act → World → Prop} {Q : Exit → Act → World → Prop} {X : Prop} (hgd : op.guard = none) (sl x : Operand) (T U : TypeId) (ho : op.op = .call { callee := .builtin .append, args := #[sl, x], argTypes := #[T, U] })
    (hT : P.underlying T = some (.slice E)) (hU : P.underlying U = some .string) (hinfo : (P.info? E).map (fun i => (i.zero, i.size, i.bytes)) = some (some (.int .u8 0), 1, 1)) (s : ByteArray) (hs : a.eval sl = v) (hx : a.eval x = .string s)
    (h : kU8.App ok base w E v xs) (hbase : base ≤ w.heap.size) (hlen : xs.length + s.size ≤ 140737488355328)
    (k : ∀ v' w', kU8.App ok base w' E v' (xs ++ byt s) → (0 < s.size ∨ kU8.Own ok base w E v xs → kU8.Own ok base w' E v' (xs ++ byt s)) → Below base w w' → (∀ k, k < w.heap.size → some k ≠ v.ownBlock → w'.heap[k]? = w.heap[k]?) →
      (v'.ownBlock = v.ownBlock ∨ ∃ k, v'.ownBlock = some k ∧ w.heap.size ≤ k) → K (a.put op.dst v') w') :
    if Region.wanted op (yielded ops a.tmps) = true then op.wp P a w K Q else X := by
  rw [if_pos (by simp [Region.wanted, hgd])]
  exact wp_app_str sl x T U ho hT hU hinfo s hs hx h hbase hlen k
end

end Go.Proofs.YtckcadhjpjjmjaaDoor
namespace Go.Proofs.YtckcadhjpjjmjaaDoor
open Go.RowKit
theorem dec_lt {u : Nat} (h : u < 10) : Lib.decDigits u = [UInt8.ofNat (48 + u)] := Lib.decDigits_one h
theorem dec_ge {u : Nat} (h : ¬ u < 10) : Lib.decDigits u = Lib.decDigits (u / 10) ++ [UInt8.ofNat (48 + u % 10)] := by rw [Lib.decDigits, dif_neg h]
theorem digit_of {d : Nat} (h : d < 10) : (UInt8.ofNat (48 + d)).toNat = 48 + d := by
  rw [UInt8.toNat_ofNat']; omega
theorem dec_digits : ∀ u : Nat, ∀ b ∈ Lib.decDigits u, 48 ≤ b.toNat ∧ b.toNat ≤ 57 := by
  intro u
  induction u using Nat.strongRecOn with
  | _ u ih =>
    intro b hb
    by_cases h : u < 10
    · rw [dec_lt h] at hb
      rw [List.mem_singleton.1 hb, digit_of h]; omega
    · rw [dec_ge h] at hb
      rcases List.mem_append.1 hb with hb | hb
      · exact ih (u / 10) (by omega) b hb
      · rw [List.mem_singleton.1 hb, digit_of (by omega)]; omega
theorem dec_ne (u : Nat) : Lib.decDigits u ≠ [] := by
  by_cases h : u < 10
  · rw [dec_lt h]; simp
  · rw [dec_ge h]; simp
theorem dec_len {u : Nat} (h : u < 18446744073709551616) : (Lib.decDigits u).length ≤ 20 := by
  have step : ∀ n u : Nat, u < 10 ^ n → 1 ≤ n → (Lib.decDigits u).length ≤ n := by
    intro n
    induction n with
    | zero => intro u _ h; omega
    | succ n ih =>
      intro u hu _
      by_cases h : u < 10
      · rw [dec_lt h]; simp
      · rw [dec_ge h, List.length_append, List.length_singleton]
        have hn : 1 ≤ n := by
          rcases Nat.eq_zero_or_pos n with h0 | h0
          · subst h0; simp at hu; omega
          · exact h0
        have := ih (u / 10) (by rw [Nat.pow_succ] at hu; omega) hn
        omega
  exact step 20 u (by omega) (by decide)
theorem parse_dec (M : Nat) (hM : M = 18446744073709551615) : ∀ (u : Nat) (t : List UInt8), u ≤ M → Lib.parseUintM M 0 (Lib.decDigits u ++ t) = Lib.parseUintM M u t := by
  intro u
  induction u using Nat.strongRecOn with
  | _ u ih =>
    intro t hu
    by_cases h : u < 10
    · rw [dec_lt h, List.singleton_append, Lib.parseUintM, digit_of h, if_pos (by omega), if_neg (by omega), if_neg (by omega)]
      congr 1
      omega
    · rw [dec_ge h, List.append_assoc, ih (u / 10) (by omega) _ (by omega), List.singleton_append, Lib.parseUintM, digit_of (by omega), if_pos (by omega), if_neg (by omega), if_neg (by omega)]
      congr 1
      omega
/-- A text's number. -/
def numB (x : List UInt8) : Option Nat := match Lib.parseUintB 64 x with
  | .ok u => if Lib.decDigits u = x then some u else none
  | _ => none
theorem num_dec {u : Nat} (h : u < 18446744073709551616) : numB (Lib.decDigits u) = some u := by
  have e : Lib.parseUintB 64 (Lib.decDigits u) = .ok u := by
    rw [Lib.parseUintB, if_neg (dec_ne u)]
    have := parse_dec 18446744073709551615 rfl u [] (by omega)
    rw [List.append_nil] at this
    exact this
  rw [numB, e]
  exact if_pos rfl
theorem parse_lt (M : Nat) : ∀ (l : List UInt8) (acc u : Nat), acc ≤ M → Lib.parseUintM M acc l = .ok u → u ≤ M
  | [], acc, u, ha, h => by rw [Lib.parseUintM] at h; cases h; exact ha
  | c :: r, acc, u, ha, h => by
    rw [Lib.parseUintM] at h
    split at h
    · split at h
      · cases h
      · split at h
        · cases h
        · exact parse_lt M r _ u (by omega) h
    · cases h
theorem num_lt {x : List UInt8} {u : Nat} (h : numB x = some u) : u < 18446744073709551616 ∧ Lib.decDigits u = x := by
  unfold numB at h
  split at h
  · rename_i v hv
    split at h
    · rename_i he
      obtain rfl : v = u := Option.some.inj h
      refine ⟨?_, he⟩
      unfold Lib.parseUintB at hv
      split at hv
      · cases hv
      · have := parse_lt (2 ^ 64 - 1) x 0 v (by decide) hv
        omega
    · cases h
  · cases h
/-- The document's way: letter by letter, around 2^64. -/
def stepG (M c acc : Nat) (b : UInt8) : Nat := (acc * 10 + b.toNat + c) % M
theorem stepG_eq (M c acc : Nat) (b : UInt8) : stepG M c acc b = (acc * 10 + b.toNat + c) % M := rfl
theorem stepG_lt (M c acc : Nat) (b : UInt8) (h : 0 < M) : stepG M c acc b < M := Nat.mod_lt _ h
theorem stepG_dec (M c : Nat) (hM : M = 18446744073709551616) (hc : c = 18446744073709551568) {u : Nat} (hu : u < M) {d : Nat} (hd : d < 10) (v : Nat) (hv : v * 10 + d = u) : stepG M c v (UInt8.ofNat (48 + d)) = u := by
  rw [stepG_eq, digit_of hd]
  subst hM hc
  omega
def foldG (M c acc : Nat) (l : List UInt8) : Nat := l.foldl (stepG M c) acc
theorem foldG_app (M c acc : Nat) (a b : List UInt8) : foldG M c acc (a ++ b) = foldG M c (foldG M c acc a) b := List.foldl_append
theorem foldG_one (M c acc : Nat) (b : UInt8) : foldG M c acc [b] = stepG M c acc b := rfl
theorem foldG_snoc (M c acc : Nat) (a : List UInt8) (b : UInt8) : foldG M c acc (a ++ [b]) = stepG M c (foldG M c acc a) b := by rw [foldG_app, foldG_one]
theorem foldG_nil (M c acc : Nat) : foldG M c acc [] = acc := rfl
theorem foldG_lt (M c : Nat) (hM : 0 < M) : ∀ (l : List UInt8) (acc : Nat), acc < M → foldG M c acc l < M := by
  intro l
  induction l with
  | nil => intro acc h; exact h
  | cons b t ih =>
    intro acc _
    have := ih (stepG M c acc b) (stepG_lt M c acc b hM)
    rwa [foldG] at this ⊢
theorem fold_dec (M c : Nat) (hM : M = 18446744073709551616) (hc : c = 18446744073709551568) : ∀ u : Nat, u < M → foldG M c 0 (Lib.decDigits u) = u := by
  intro u
  induction u using Nat.strongRecOn with
  | _ u ih =>
    intro hu
    by_cases h : u < 10
    · rw [dec_lt h, foldG_one, stepG_dec M c hM hc hu h 0 (by omega)]
    · rw [dec_ge h, foldG_app, ih (u / 10) (by omega) (by omega), foldG_one, stepG_dec M c hM hc hu (by omega) (u / 10) (by omega)]
def oddD (x : List UInt8) : Bool := x.any fun b => decide (b.toNat < 48) || decide (57 < b.toNat)
/-- Both ways read the same. -/
theorem num_ref (M c : Nat) (hM : M = 18446744073709551616) (hc : c = 18446744073709551568) (x : List UInt8) : numB x = if 20 < x.length then none else if oddD x = true then none else if Lib.decDigits (foldG M c 0 x) = x then some (foldG M c 0 x) else none := by
  cases hn : numB x with
  | some u =>
    obtain ⟨h1, h2⟩ := num_lt hn
    have hl := dec_len h1
    rw [h2] at hl
    have hf := fold_dec M c hM hc u (by omega)
    rw [h2] at hf
    have ho : ¬ oddD x = true := by
      intro h
      obtain ⟨b, hb, h3⟩ := List.any_eq_true.1 h
      have := dec_digits u b (by rw [h2]; exact hb)
      simp at h3
      omega
    rw [if_neg (by omega), if_neg ho, hf, if_pos h2]
  | none =>
    by_cases h1 : 20 < x.length
    · rw [if_pos h1]
    · rw [if_neg h1]
      by_cases h2 : oddD x = true
      · rw [if_pos h2]
      · rw [if_neg h2]
        by_cases h3 : Lib.decDigits (foldG M c 0 x) = x
        · exfalso
          have hlt := foldG_lt M c (by omega) x 0 (by omega)
          have := num_dec (u := foldG M c 0 x) (by omega)
          rw [h3, hn] at this
          cases this
        · rw [if_neg h3]
end Go.Proofs.YtckcadhjpjjmjaaDoor
namespace Go.Proofs.YtckcadhjpjjmjaaDoor
open Go.RowKit
/-- A text's pieces between a sign. -/
def spl (c : UInt8) : List UInt8 → List (List UInt8)
  | [] => [[]]
  | b :: t => if b = c then [] :: spl c t else match spl c t with
    | [] => [[b]]
    | h :: r => (b :: h) :: r
theorem spl_ne (c : UInt8) : ∀ s, spl c s ≠ []
  | [] => by simp [spl]
  | b :: t => by
    unfold spl
    split
    · simp
    · split <;> simp
theorem spl_len (c : UInt8) : ∀ s, (spl c s).length = s.count c + 1
  | [] => rfl
  | b :: t => by
    have h := spl_len c t
    unfold spl
    split
    · rename_i hb; subst hb
      rw [List.length_cons, h, List.count_cons_self]
    · rename_i hb
      rw [List.count_cons_of_ne (by simpa using hb)]
      split
      · rename_i h0; exact absurd h0 (spl_ne c t)
      · rename_i x r h0; rw [h0, List.length_cons] at h; rw [List.length_cons, h]
theorem spl_one (c : UInt8) : ∀ s, c ∉ s → spl c s = [s]
  | [], _ => rfl
  | b :: t, h => by
    have hb : ¬ b = c := fun e => h (by rw [e]; exact List.mem_cons_self)
    rw [spl, if_neg hb, spl_one c t (fun e => h (List.mem_cons_of_mem _ e))]
theorem spl_cut (c : UInt8) (t : List UInt8) : ∀ x, c ∉ x → spl c (x ++ c :: t) = x :: spl c t
  | [], _ => by rw [List.nil_append, spl, if_pos rfl]
  | b :: x, h => by
    have hb : ¬ b = c := fun e => h (by rw [e]; exact List.mem_cons_self)
    rw [List.cons_append, spl, if_neg hb, spl_cut c t x (fun e => h (List.mem_cons_of_mem _ e))]
theorem occ_one (s : List UInt8) (c : UInt8) (i : Nat) : Lib.occAt s [c] i = true ↔ s[i]? = some c := by
  unfold Lib.occAt
  rw [← List.head?_drop]
  cases s.drop i with
  | nil => simp [List.isPrefixOf]
  | cons a l =>
    simp only [List.isPrefixOf, Bool.and_true, beq_iff_eq, List.head?_cons, Option.some.injEq]
    exact eq_comm
theorem splK (c : UInt8) : ∀ (k : Nat) (s : List UInt8), s.count c = k → Lib.splitK [c] 0 k s = spl c s
  | 0, s, h => by rw [Lib.splitK, spl_one c s (List.count_eq_zero.1 h)]
  | k + 1, s, h => by
    rw [Lib.splitK]
    rcases Lib.index_spec s [c] with ⟨_, h2⟩ | ⟨i, h1, h2, h3, h4⟩
    · have hn : c ∉ s := fun hm => by
        obtain ⟨j, hj, e⟩ := List.mem_iff_getElem.1 hm
        have := h2 j (by omega)
        rw [(occ_one s c j).2 (by rw [List.getElem?_eq_getElem hj, e])] at this
        cases this
      rw [List.count_eq_zero.2 hn] at h
      cases h
    · have hi : s[i]? = some c := (occ_one s c i).1 h3
      obtain ⟨hlt, he⟩ := List.getElem?_eq_some_iff.1 hi
      have hs : s = s.take i ++ c :: s.drop (i + 1) := by
        rw [← he, ← List.drop_eq_getElem_cons hlt, List.take_append_drop]
      have hno : c ∉ s.take i := fun hm => by
        obtain ⟨j, hj, e⟩ := List.mem_iff_getElem.1 hm
        rw [List.length_take] at hj
        rw [List.getElem_take] at e
        have := h4 j (by omega)
        rw [(occ_one s c j).2 (by rw [List.getElem?_eq_getElem (by omega), e])] at this
        cases this
      have hc : (s.drop (i + 1)).count c = k := by
        rw [hs, List.count_append, List.count_eq_zero.2 hno, List.count_cons_self] at h
        omega
      rw [h1, if_neg (by simp), Int.toNat_natCast, List.length_singleton, splK c k _ hc]
      conv => rhs; rw [hs]
      rw [spl_cut c _ _ hno]
      simp
/-- Pieces without the sign, joined, come back. -/
theorem spl_join (c : UInt8) : ∀ l : List (List UInt8), l ≠ [] → (∀ x ∈ l, c ∉ x) → spl c (Lib.join l [c]) = l
  | [], h, _ => absurd rfl h
  | [x], _, h => by rw [Lib.join_one, spl_one c x (h x List.mem_cons_self)]
  | x :: y :: r, _, h => by
    have e : Lib.join (x :: y :: r) [c] = x ++ c :: Lib.join (y :: r) [c] := by
      rw [Lib.join_cons, Lib.join_cons]
      simp [Lib.joinTail]
    rw [e, spl_cut c _ _ (h x List.mem_cons_self), spl_join c (y :: r) (by simp) (fun z hz => h z (List.mem_cons_of_mem _ hz))]
/-- Is there a rune beyond bounds? Just if there is such a byte. -/
theorem idx_out (p : Nat → Bool) (lo hi : Nat) (hhi : hi < 128) (hp : ∀ n, p n = (decide (n < lo) || decide (hi < n))) (s : ByteArray) : ∀ (f pos : Nat), s.size ≤ pos + f →
    decide (0 ≤ Lib.idxFuncFrom p true s f pos) = ((s.data.toList.drop pos).any fun b => decide (b.toNat < lo) || decide (hi < b.toNat))
  | 0, pos, h => by
    have hl : s.data.toList.length = s.size := rfl
    rw [List.drop_eq_nil_of_le (by omega)]
    rfl
  | f + 1, pos, h => by
    have hl : s.data.toList.length = s.size := rfl
    unfold Lib.idxFuncFrom
    by_cases hp1 : pos < s.size
    · have hd : s.data.toList.drop pos = (s[pos]'hp1) :: s.data.toList.drop (pos + 1) := by
        rw [List.drop_eq_getElem_cons (by omega)]; rfl
      rw [if_pos hp1, hd, List.any_cons]
      rcases Nat.lt_or_ge (s[pos]'hp1).toNat 128 with hb | hb
      · rw [decode_ascii s pos hp1 hb, ← hp]
        cases hpb : p (s[pos]'hp1).toNat with
        | true => rw [if_pos rfl]; simp
        | false =>
          rw [if_neg (by simp), Bool.false_or]
          exact idx_out p lo hi hhi hp s f (pos + 1) (by omega)
      · have hdh := (decode_high s pos hp1 hb).1
        rw [hp, if_pos (by simp; omega)]
        simp
        omega
    · rw [if_neg hp1, List.drop_eq_nil_of_le (by omega)]
      rfl
/-- Is it a name? -/
def isNm (w : List UInt8) : Bool := decide (1 ≤ w.length) && decide (w.length ≤ 16) && !(w.any fun b => decide (b.toNat < 97) || decide (122 < b.toNat))
theorem isNm_comma {w : List UInt8} (h : isNm w = true) : (44 : UInt8) ∉ w := fun hm => by
  simp only [isNm, Bool.and_eq_true, Bool.not_eq_true', List.any_eq_false] at h
  have := h.2 44 hm
  simp at this
section
variable (ge : List UInt8 → List UInt8 → Bool)
/-- Are they names, each above the one ahead? -/
def rises : Option (List UInt8) → List (List UInt8) → Bool
  | _, [] => true
  | p, w :: t => (isNm w && !(match p with | none => false | some q => ge q w)) && rises (some w) t
theorem rises_nm : ∀ (p : Option (List UInt8)) (l : List (List UInt8)), rises ge p l = true → ∀ w ∈ l, isNm w = true
  | _, [], _, w, hw => absurd hw (by simp)
  | p, x :: t, h, w, hw => by
    unfold rises at h
    rw [Bool.and_eq_true, Bool.and_eq_true] at h
    rcases List.mem_cons.1 hw with rfl | hw
    · exact h.1.1
    · exact rises_nm (some x) t h.2 w hw
/-- Are they names that rise, and not too many? -/
def riseB (l : List (List UInt8)) : Bool := decide (1 ≤ l.length) && decide (l.length ≤ 32) && rises ge none l
/-- A text's names. -/
def namesB (s : List UInt8) : Option (List (List UInt8)) := if riseB ge (spl 44 s) = true then some (spl 44 s) else none
/-- Names' text. -/
def joinB (l : List (List UInt8)) : List UInt8 := if riseB ge l = true then Lib.join l [44] else []
theorem names_nil : namesB ge [] = none := by
  have h : riseB ge (spl 44 []) = false := by simp [riseB, spl, rises, isNm]
  rw [namesB, h]; rfl
theorem rise_join {l : List (List UInt8)} (h : riseB ge l = true) : spl 44 (Lib.join l [44]) = l := by
  simp only [riseB, Bool.and_eq_true, decide_eq_true_eq] at h
  refine spl_join 44 l ?_ fun x hx => isNm_comma (rises_nm ge none l h.2 x hx)
  intro e; rw [e] at h; exact absurd h.1.1 (by simp)
/-- What is joined, and read back. -/
theorem join_back (l : List (List UInt8)) : (match namesB ge (Lib.join l [44]) with | some m => if m = l then Lib.join l [44] else [] | none => []) = joinB ge l := by
  unfold joinB
  by_cases h : riseB ge l = true
  · rw [namesB, rise_join ge h, if_pos h, if_pos h]
    exact if_pos rfl
  · rw [if_neg h, namesB]
    by_cases h2 : riseB ge (spl 44 (Lib.join l [44])) = true
    · rw [if_pos h2]
      by_cases h3 : spl 44 (Lib.join l [44]) = l
      · exact absurd (h3 ▸ h2) h
      · exact if_neg h3
    · rw [if_neg h2]
theorem names_back (l : List (List UInt8)) : namesB ge (joinB ge l) = if riseB ge l = true then some l else none := by
  unfold joinB
  by_cases h : riseB ge l = true
  · rw [if_pos h, if_pos h, namesB, rise_join ge h, if_pos h]
  · rw [if_neg h, if_neg h, names_nil]
theorem join_ne (l : List (List UInt8)) (h : riseB ge l = true) : joinB ge l ≠ [] := by
  intro e
  have := names_back ge l
  rw [e, names_nil, if_pos h] at this
  cases this
end
end Go.Proofs.YtckcadhjpjjmjaaDoor
namespace Go.Proofs.YtckcadhjpjjmjaaDoor
open Go.RowKit
/-- []byte(text), at the operation. -/
theorem wp_tobytes {P : Program} {E : TypeId} {w : World} {op : Oper} {a : Act} {K : Act → World → Prop} {Q : Exit → Act → World → Prop} (S D : TypeId) (x : Operand) (ho : op.op = .convert S D x) (s : ByteArray) (hx : a.eval x = .string s)
    (hS : P.underlying S = some .string) (hD : P.underlying D = some (.slice E)) (hE : P.underlying E = some (.int .u8)) (hs : s.size ≤ 9223372036854775807)
    (k : ∀ c w', kU8.Row (fun k => k = w.heap.size) w' (some ⟨w.heap.size, 0, none⟩) s.size c (byt s) → Below w.heap.size w w' → K (a.put op.dst (.slice (some ⟨w.heap.size, 0, none⟩) s.size c)) w') : op.wp P a w K Q := by
  unfold Oper.wp execOp
  simp only [ho, hx, Sem.run_bind, Sem.run_pure, Result.andThen_ok, Lib.run_convert_string_bytes w S D E s hS hD hE]
  exact k _ _ (bytes_new w E s hs) (bytesWorld_below w E s)

/-- A part of a text. -/
theorem ext_txt (s : List UInt8) (i j : Nat) : (txt s).extract i j = txt ((s.drop i).take (j - i)) := by
  apply ByteArray.ext
  rw [ByteArray.data_extract]
  apply Array.toList_inj.1
  simp [List.extract_eq_take_drop]
theorem ext_is {s l : List UInt8} {i j a b : Nat} (h : (s.drop a).take (b - a) = l) (hi : i = a) (hj : j = b) : Value.string ((txt s).extract i j) = .string (txt l) := by
  subst hi hj
  rw [ext_txt, h]
end Go.Proofs.YtckcadhjpjjmjaaDoor
namespace Go.Proofs.YtckcadhjpjjmjaaDoor
open Go.RowKit
/-- The letters that bar a name. -/
def oddN (c : Nat) : Bool := decide (c < 97) || decide (122 < c)
theorem pred_name (w : World) : PredAt Tryd.prog 65 #[] encR oddN w := fun W r _ => by
  unfold FnGives
  by_cases h1 : r < 97 <;> by_cases h2 : 122 < r
  all_goals
    have z1 : (r : Int) < 97 ↔ r < 97 := by omega
    have z2 : (122 : Int) < (r : Int) ↔ 122 < r := by omega
    go_enter Tryd.func65, Tryd.ntmps65
    go_wp2
    all_goals first | (exfalso; omega) | (go_ret; exact ⟨by simp [oddN, h1, h2], 0, rfl⟩)
theorem c_lname (s : ByteArray) (w : World) : Calls Tryd.prog 38 #[.string s] w fun e w' => e = .returned (.bool (isNm (byt s))) ∧ Below w.heap.size w w' := by
  have hC := Tryd.strings_ContainsFunc 65 #[] (enters_of Tryd.func65 (by kernel_rfl) rfl) oddN s w (pred_name w)
  have hi := idx_out oddN 97 122 (by decide) (fun n => rfl) s s.size 0 (by omega)
  rw [List.drop_zero] at hi
  rw [Lib.idxFunc, hi] at hC
  obtain ⟨b, hb⟩ : ∃ b, (s.data.toList.any fun b => decide (b.toNat < 97) || decide (122 < b.toNat)) = b := ⟨_, rfl⟩
  rw [hb] at hC
  have hl : (byt s).length = s.size := byt_len s
  by_cases h0 : s.toList = []
  · have hn : isNm (byt s) = false := by
      rw [ByteArray.toList_eq] at h0
      show isNm s.data.toList = false
      rw [h0]; rfl
    rw [hn]
    clear hn hi hC
    go_enter Tryd.func38, Tryd.ntmps38
    go_wp2_with fail
    go_ret
    exact ⟨rfl, Below.refl _ _⟩
  · have h1 : 1 ≤ s.size := by
      rw [ByteArray.toList_eq] at h0
      rcases Nat.eq_zero_or_pos s.size with h | h
      · exact absurd (List.length_eq_zero_iff.1 (hl.trans h)) h0
      · exact h
    have hN : isNm (byt s) = (decide (s.size ≤ 16) && !b) := by
      rw [isNm, hl, decide_eq_true h1, Bool.true_and, ← hb]
    by_cases h16 : s.size ≤ 16
    · have h16' : (s.size : Int) ≤ 16 := by omega
      rw [hN, decide_eq_true h16, Bool.true_and]
      clear hN hi hb hl
      go_enter Tryd.func38, Tryd.ntmps38
      go_wp2_with fail
      refine hC.mono ?_
      rintro e w1 ⟨rfl, b1⟩
      cases b with
      | true =>
        go_wp2_with fail
        go_ret
        exact ⟨rfl, b1⟩
      | false =>
        go_wp2_with fail
        go_ret
        exact ⟨by simp [h0], b1⟩
    · have h16' : ¬ (s.size : Int) ≤ 16 := by omega
      rw [hN, decide_eq_false h16, Bool.false_and]
      clear hN hi hb hl hC
      go_enter Tryd.func38, Tryd.ntmps38
      go_wp2_with fail
      go_ret
      exact ⟨rfl, Below.refl _ _⟩
/-- A text's byte, at the operation. -/
theorem txt_byte {P : Program} {T : TypeId} (h : P.underlying T = some .string) {s : List UInt8} {k : Nat} {y : UInt8} (hy : s[k]? = some y) (kd : IntKind) : ∀ W : World, (Instr.index T (.string (txt s)) (.int kd (k : Int))).run P W = .ok (bv y) W := fun W => by
  have hl := (List.getElem?_eq_some_iff.1 hy).1
  have hi : 0 ≤ (k : Int) ∧ (k : Int) < ((txt s).size : Int) := by rw [txt_size]; omega
  rw [run_index_string W T (txt s) kd k h, dif_pos hi]
  have h3 : ((txt s)[(k : Int).toNat]'(by rw [txt_size]; omega)) = y := by
    show s.toArray[(k : Int).toNat]'_ = y
    simp only [Int.toNat_natCast, List.getElem_toArray]
    exact (List.getElem?_eq_some_iff.1 hy).2
  exact congrArg (fun z => Result.ok (bv z) W) h3
/-- The document's: byte by byte. -/
theorem c_rname (x : List UInt8) (w : World) (hx : x.length ≤ maxLen) : Calls Tryd.prog 39 #[.string (txt x)] w fun e w' => e = .returned (.bool (isNm x)) ∧ w' = w := by
  have hsz : (txt x).size = x.length := txt_size x
  obtain ⟨n, hn⟩ : ∃ n, x.length = n := ⟨_, rfl⟩
  rw [hn] at hsz hx
  simp only [maxLen] at hx
  by_cases h1 : n < 1
  · have h1' : (n : Int) < 1 := by omega
    have hN : isNm x = false := by rw [isNm, hn, decide_eq_false (by omega)]; rfl
    rw [hN]
    clear hN
    go_enter Tryd.func39, Tryd.ntmps39
    go_wp2_with fail
    go_ret
    exact ⟨rfl, rfl⟩
  · have h1' : ¬ (n : Int) < 1 := by omega
    by_cases h16 : 16 < n
    · have h16' : (16 : Int) < n := by omega
      have hN : isNm x = false := by rw [isNm, hn, decide_eq_true (by omega), decide_eq_false (by omega)]; rfl
      rw [hN]
      clear hN
      go_enter Tryd.func39, Tryd.ntmps39
      go_wp2_with fail
      go_ret
      exact ⟨rfl, rfl⟩
    · have h16' : ¬ (16 : Int) < n := by omega
      have HN : Hid (isNm x = !(x.any fun b => decide (b.toNat < 97) || decide (122 < b.toNat))) := hide (by rw [isNm, hn, decide_eq_true (by omega), decide_eq_true (by omega)]; rfl)
      have HL := hide hn
      clear hn
      go_enter Tryd.func39, Tryd.ntmps39
      go_wp2_with fail
      go_loop [3] (fun i => ∃ k : Nat, k ≤ n ∧ i = .int .i64 (k : Int) ∧ Hid (((x.take k).any fun b => decide (b.toNat < 97) || decide (122 < b.toNat)) = false)) (fun i => n - (intOf i).toNat)
      case atStart => exact ⟨0, Nat.zero_le _, rfl, hide rfl⟩
      case round =>
        obtain ⟨k, hk, rfl, HT⟩ := hrel
        by_cases hlt : k < n
        · obtain ⟨y, hy⟩ : ∃ y, x[k]? = some y := ⟨_, List.getElem?_eq_getElem (by have := HL.out; omega)⟩
          have hix := txt_byte (P := Tryd.prog) Tryd.underlying9 hy .i64
          have hT2 : ((x.take (k + 1)).any fun b => decide (b.toNat < 97) || decide (122 < b.toNat)) = (decide (y.toNat < 97) || decide (122 < y.toNat)) := by
            rw [List.take_add_one, hy, List.any_append, HT.out, Bool.false_or]
            simp
          have hmem : y ∈ x := List.mem_of_getElem? hy
          clear hy
          by_cases ha : y.toNat < 97
          · have HR : Hid (isNm x = false) := hide (by rw [HN.out, List.any_eq_true.2 ⟨y, hmem, by simp; omega⟩]; rfl)
            have ha' : (y.toNat : Int) < 97 := by omega
            clear hT2
            go_wp2_with fail
            go_ret
            exact ⟨by rw [HR.out]; rfl, rfl⟩
          · have ha' : ¬ (y.toNat : Int) < 97 := by omega
            by_cases hz : 122 < y.toNat
            · have HR : Hid (isNm x = false) := hide (by rw [HN.out, List.any_eq_true.2 ⟨y, hmem, by simp; omega⟩]; rfl)
              have hz' : (122 : Int) < (y.toNat : Int) := by omega
              clear hT2
              go_wp2_with fail
              go_ret
              exact ⟨by rw [HR.out]; rfl, rfl⟩
            · have hz' : ¬ (122 : Int) < (y.toNat : Int) := by omega
              have HT2 : Hid (((x.take (k + 1)).any fun b => decide (b.toNat < 97) || decide (122 < b.toNat)) = false) := hide (by rw [hT2, decide_eq_false ha, decide_eq_false hz]; rfl)
              clear hT2
              go_wp2_with fail
              go_round
              case rel => exact ⟨k + 1, by omega, by simp, HT2⟩
              case measure => simp [intOf]; omega
        · obtain rfl : k = n := by omega
          have HR : Hid (isNm x = true) := hide (by
            have := HT.out
            rw [List.take_of_length_le (Nat.le_of_eq HL.out)] at this
            rw [HN.out, this]; rfl)
          go_wp2_with fail
          go_ret
          exact ⟨by rw [HR.out]; rfl, rfl⟩
end Go.Proofs.YtckcadhjpjjmjaaDoor
namespace Go.Proofs.YtckcadhjpjjmjaaDoor
open Go.RowKit
theorem str_info : (Tryd.prog.info? 9).map (·.size) = some kStr.sz := by kernel_rfl
theorem str_inf : (Tryd.prog.info? 9).map (fun i => (i.zero, i.size, i.bytes)) = some (some (.string ByteArray.empty), kStr.sz, 16) := by kernel_rfl
theorem row_str {ok : Nat → Prop} {w : World} {A : Option Addr} {n c : Nat} {l : List ByteArray} (h : kStr.Row ok w A n c l) {i : Nat} {x : ByteArray} (hx : l[i]? = some x) :
    ∃ p o, (∀ wx : World, (Instr.indexAt 22 (.slice A n c) (.int .i64 (i : Int))).run Tryd.prog wx = .ok (.pointer (some ⟨p, o, none⟩)) wx) ∧ w.cell? ⟨p, o, none⟩ = some (.string x) ∧ p < w.heap.size ∧ x.size ≤ maxLen := by
  obtain ⟨p, o, cs, hi, -, hb, hk, hra⟩ := h.index (P := Tryd.prog) Tryd.underlying22 (E := 9) str_info hx
  obtain ⟨rfl, hm⟩ := hk
  exact ⟨p, o, hi, by simpa using hra 0 _ rfl, hb, hm⟩
theorem strs_row {w : World} {g : Nat} {C : Array Value} {t : TypeId} {fr : Nat × Nat} (l : List ByteArray) (hg : w.heap[g]? = some (.cells C t fr)) (hC : C.toList = l.map Value.string) (hs : ∀ s ∈ l, s.size ≤ maxLen) (hm : l.length ≤ maxLen) : kStr.Row (fun _ => True) w (some ⟨g, 0, none⟩) l.length l.length l := by
  refine ⟨rfl, Nat.le_refl _, hm, fun _ => ⟨g, 0, rfl, trivial, (Array.getElem?_eq_some_iff.1 hg).1, fun i y hy => ⟨[.string y], ⟨rfl, hs y (List.mem_of_getElem? hy)⟩, fun j u hu => ?_⟩⟩⟩
  have hj : j = 0 := by have := (List.getElem?_eq_some_iff.1 hu).1; simp at this; omega
  subst hj
  have hu' : u = .string y := by simpa using hu.symm
  subst hu'
  rw [cell_of_row _ _ _ _ _ _ hg, ← Array.getElem?_toList, hC, List.getElem?_map]
  simp only [kStr, Kd.cell, Nat.zero_add, Nat.mul_one, Nat.add_zero, hy, Option.map_some]
end Go.Proofs.YtckcadhjpjjmjaaDoor
namespace Go.Proofs.YtckcadhjpjjmjaaDoor
open Go.RowKit
/-- Is the one not below the other? -/
def geS (a b : List UInt8) : Bool := !(Op.bytesLess a b)
theorem c_rname0 (s : ByteArray) (w : World) (hs : s.size ≤ maxLen) : Calls Tryd.prog 39 #[.string s] w fun e w' => e = .returned (.bool (isNm (byt s))) ∧ w' = w := by
  have h := c_rname (byt s) w (by rw [byt_len]; exact hs)
  rwa [txt_byt] at h
/-- What stands ahead. -/
def prevO (l : List (List UInt8)) : Nat → Option (List UInt8)
  | 0 => none
  | k + 1 => l[k]?
theorem rises_step {l : List (List UInt8)} {k : Nat} {x : List UInt8} (hx : l[k]? = some x) : rises geS (prevO l k) (l.drop k) = ((isNm x && !(match prevO l k with | none => false | some q => geS q x)) && rises geS (prevO l (k + 1)) (l.drop (k + 1))) := by
  obtain ⟨hk, rfl⟩ := List.getElem?_eq_some_iff.1 hx
  rw [List.drop_eq_getElem_cons hk, show prevO l (k + 1) = some l[k] from hx]
  rfl
/-- Pieces in memory. -/
def NamesR (w : World) (o : Option (List (List UInt8))) (e : Ending) (w' : World) : Prop :=
  ∃ A n c, e = .returned (.tuple #[.slice A n c, .bool o.isSome]) ∧ kStr.Row (fun k => w.heap.size ≤ k) w' A n c ((o.getD []).map txt) ∧ Below w.heap.size w w'
set_option maxRecDepth 100000 in
set_option maxHeartbeats 1600000 in
theorem c_rise (l : List (List UInt8)) (A : Option Addr) (n c : Nat) (ok : Nat → Prop) (w : World) (hR : kStr.Row ok w A n c (l.map txt)) :
    Calls Tryd.prog 51 #[.slice A n c] w fun e w' => e = .returned (.bool (riseB geS l)) ∧ w' = w := by
  have hl : l.length = n := by rw [← hR.1, List.length_map]
  have hn63 : n ≤ 9223372036854775807 := Nat.le_trans hR.2.1 hR.2.2.1
  by_cases h1 : n < 1
  · have h1' : (n : Int) < 1 := by omega
    rw [show riseB geS l = false from by rw [riseB, hl, decide_eq_false (by omega)]; rfl]
    clear hR hl
    go_enter Tryd.func51, Tryd.ntmps51
    go_wp2_with fail
    go_ret
    exact ⟨rfl, rfl⟩
  · have h1' : ¬ (n : Int) < 1 := by omega
    by_cases h32 : 32 < n
    · have h32' : (32 : Int) < n := by omega
      rw [show riseB geS l = false from by rw [riseB, hl, decide_eq_true (by omega), decide_eq_false (by omega)]; rfl]
      clear hR hl
      go_enter Tryd.func51, Tryd.ntmps51
      go_wp2_with fail
      go_ret
      exact ⟨rfl, rfl⟩
    · have h32' : ¬ (32 : Int) < n := by omega
      have HB : Hid (riseB geS l = rises geS none l) := hide (by rw [riseB, hl, decide_eq_true (by omega), decide_eq_true (by omega)]; rfl)
      have HR := hide hR
      have HL := hide hl
      clear hR hl
      go_enter Tryd.func51, Tryd.ntmps51
      go_wp2_with fail
      go_loop [15] (fun i => ∃ k : Nat, k ≤ n ∧ i = .int .i64 (k : Int) ∧ Hid (rises geS (prevO l k) (l.drop k) = rises geS none l)) (fun i => n - (intOf i).toNat)
      case atStart => exact ⟨0, Nat.zero_le _, rfl, hide rfl⟩
      case round =>
        obtain ⟨k, hk, rfl, HT⟩ := hrel
        by_cases hlt : k < n
        · obtain ⟨x, hx⟩ : ∃ x, l[k]? = some x := ⟨_, List.getElem?_eq_getElem (by have := HL.out; omega)⟩
          have hx2 : (l.map txt)[k]? = some (txt x) := by rw [List.getElem?_map, hx]; rfl
          obtain ⟨p, o, hix, hcx, -, hsx⟩ := row_str (h := HR.out) hx2
          have HS := hide (rises_step hx)
          cases hnm : isNm x with
          | false =>
            have HE : Hid (riseB geS l = false) := hide (by rw [HB.out, ← HT.out, HS.out, hnm]; rfl)
            have HN := hide hnm
            clear hx hx2 hnm
            go_wp2_with fail
            refine (c_rname0 (txt x) w hsx).mono ?_
            rintro e w5 ⟨rfl, rfl⟩
            rw [byt_txt, HN.out]
            go_wp2_with fail
            go_ret
            exact ⟨by rw [HE.out]; rfl, rfl⟩
          | true =>
            have HN := hide hnm
            by_cases h0 : k = 0
            · subst h0
              have hix0 : ∀ wx : World, (Instr.indexAt 22 (.slice A n c) (.int .i64 0)).run Tryd.prog wx = .ok (.pointer (some ⟨p, o, none⟩)) wx := hix
              clear hix
              have HT2 : Hid (rises geS (prevO l 1) (l.drop 1) = rises geS none l) := hide (by rw [← HT.out, HS.out, hnm]; simp [prevO])
              clear hx hx2 hnm
              go_wp2_with fail
              refine (c_rname0 (txt x) w hsx).mono ?_
              rintro e w5 ⟨rfl, rfl⟩
              rw [byt_txt, HN.out]
              go_wp2_with fail
              go_round
              case rel => exact ⟨1, by omega, by simp, HT2⟩
              case measure => simp [intOf]; omega
            · have h0' : (0 : Int) < (k : Int) := by omega
              obtain ⟨q, hq⟩ : ∃ q, l[k - 1]? = some q := ⟨_, List.getElem?_eq_getElem (by have := HL.out; omega)⟩
              have hp : prevO l k = some q := by
                obtain ⟨j, rfl⟩ : ∃ j, k = j + 1 := ⟨k - 1, by omega⟩
                exact hq
              have hq2 : (l.map txt)[k - 1]? = some (txt q) := by rw [List.getElem?_map, hq]; rfl
              obtain ⟨p2, o2, hiy, hcy, hb2, -⟩ := row_str (h := HR.out) hq2
              have hk1 : ((k - 1 : Nat) : Int) = (k : Int) - 1 := by omega
              rw [hk1] at hiy
              cases hge : geS q x with
              | true =>
                have HE : Hid (riseB geS l = false) := hide (by rw [HB.out, ← HT.out, HS.out, hnm, hp]; simp [hge])
                have hg : Op.bytesLess q x = false := by simpa [geS] using hge
                clear hx hx2 hnm hq hq2 hp hge
                go_wp2_with fail
                refine (c_rname0 (txt x) w hsx).mono ?_
                rintro e w5 ⟨rfl, rfl⟩
                rw [byt_txt, HN.out]
                go_wp2_with fail
                go_ret
                exact ⟨by rw [HE.out]; rfl, rfl⟩
              | false =>
                have HT2 : Hid (rises geS (prevO l (k + 1)) (l.drop (k + 1)) = rises geS none l) := hide (by rw [← HT.out, HS.out, hnm, hp]; simp [hge])
                have hg : Op.bytesLess q x = true := by simpa [geS] using hge
                clear hx hx2 hnm hq hq2 hp hge
                go_wp2_with fail
                refine (c_rname0 (txt x) w hsx).mono ?_
                rintro e w5 ⟨rfl, rfl⟩
                rw [byt_txt, HN.out]
                go_wp2_with fail
                go_round
                case rel => exact ⟨k + 1, by omega, by simp, HT2⟩
                case measure => simp [intOf]; omega
        · obtain rfl : k = n := by omega
          have HE : Hid (riseB geS l = true) := hide (by rw [HB.out, ← HT.out, List.drop_eq_nil_of_le (Nat.le_of_eq HL.out)]; simp [rises])
          go_wp2_with fail
          go_ret
          exact ⟨by rw [HE.out]; rfl, rfl⟩
end Go.Proofs.YtckcadhjpjjmjaaDoor
namespace Go.Proofs.YtckcadhjpjjmjaaDoor
open Go.RowKit
theorem spl_le (c : UInt8) : ∀ (s : List UInt8), ∀ p ∈ spl c s, p.length ≤ s.length
  | [], p, hp => by
    have : p = [] := by simpa [spl] using hp
    rw [this]; exact Nat.zero_le _
  | b :: t, p, hp => by
    have ih := spl_le c t
    unfold spl at hp
    split at hp
    · rcases List.mem_cons.1 hp with rfl | hp
      · exact Nat.zero_le _
      · have := ih p hp; rw [List.length_cons]; omega
    · split at hp
      · rename_i h0; exact absurd h0 (spl_ne c t)
      · rename_i h r h0
        rcases List.mem_cons.1 hp with rfl | hp
        · have := ih h (by rw [h0]; exact List.mem_cons_self); rw [List.length_cons, List.length_cons]; omega
        · have := ih p (by rw [h0]; exact List.mem_cons_of_mem _ hp); rw [List.length_cons]; omega
theorem split_eq (c : UInt8) (x : List UInt8) : Lib.splitB ⟨#[c]⟩ 0 (Lib.countB (txt x) ⟨#[c]⟩) (txt x) = (spl c x).map txt := by
  have hk : Lib.countB (txt x) ⟨#[c]⟩ = x.count c := Lib.count_one c x
  have h := Lib.splitB_data ⟨#[c]⟩ 0 (Lib.countB (txt x) ⟨#[c]⟩) (txt x)
  have h2 : (Lib.splitB ⟨#[c]⟩ 0 (Lib.countB (txt x) ⟨#[c]⟩) (txt x)).map (·.data.toList) = spl c x := h.trans (splK c _ _ hk.symm)
  rw [← h2, List.map_map]
  conv => lhs; rw [← List.map_id (Lib.splitB _ _ _ _)]
  exact List.map_congr_left fun s _ => (txt_byt s).symm
theorem count_eq (c : UInt8) (x : List UInt8) : Lib.countB (txt x) ⟨#[c]⟩ + 1 = (spl c x).length := by
  rw [spl_len]
  exact congrArg (· + 1) (Lib.count_one c x)
set_option maxRecDepth 100000 in
set_option maxHeartbeats 3200000 in
theorem c_lnames (x0 : List UInt8) (m : Int) (w : World) (hx0 : x0.length ≤ 1000000) (hm : w.cell? ⟨5, 0, none⟩ = some (.int .i64 m)) :
    Calls Tryd.prog 13 #[.string (txt x0)] w (NamesR w (namesB geS x0)) := by
  have hS := Tryd.strings_Split (txt x0) ⟨#[44]⟩ m w (by rw [txt_size]; omega) hm (by decide)
  rw [count_eq, split_eq] at hS
  obtain ⟨l, hl0⟩ : ∃ l, spl 44 x0 = l := ⟨_, rfl⟩
  rw [hl0] at hS
  have hsz : ∀ s ∈ l.map txt, s.size ≤ maxLen := by
    intro s hs
    obtain ⟨p, hp, rfl⟩ := List.mem_map.1 hs
    have := spl_le 44 x0 p (by rw [hl0]; exact hp)
    rw [txt_size]; simp only [maxLen]; omega
  have hcnt : l.length ≤ 1000001 := by
    rw [← hl0, spl_len]; have := List.count_le_length (a := (44 : UInt8)) (l := x0); omega
  obtain ⟨n, hl⟩ : ∃ n, l.length = n := ⟨_, rfl⟩
  rw [hl] at hS hcnt
  have hn1 : 1 ≤ n := by rw [← hl, ← hl0, spl_len]; omega
  have HNB : Hid (namesB geS x0 = if riseB geS l = true then some l else none) := hide (by rw [namesB, hl0])
  obtain ⟨w1, hw1⟩ : ∃ w1, w1 = w.alloc (.cells ((l.map txt).map Value.string).toArray 9) := ⟨_, rfl⟩
  have HR : Hid (kStr.Row (fun k => w.heap.size ≤ k) w1 (some ⟨w.heap.size, 0, none⟩) n n (l.map txt)) := hide (by
    have h := strs_row (w := w1) (g := w.heap.size) (l.map txt) (by rw [hw1]; exact heap_alloc_new _ _) (by simp) hsz (by rw [List.length_map, hl]; simp only [maxLen]; omega)
    rw [List.length_map, hl] at h
    refine ⟨h.1, h.2.1, h.2.2.1, fun hn => ?_⟩
    obtain ⟨b, o, e, -, h4, h5⟩ := h.2.2.2 hn
    have eb : b = w.heap.size := by injection e with e; injection e with e1 _; exact e1.symm
    exact ⟨b, o, e, by rw [eb]; exact Nat.le_refl _, h4, fun i y hy => let ⟨cs, h6, h7⟩ := h5 i y hy; ⟨cs, h6, h7⟩⟩)
  have HB1 : Hid (Below w.heap.size w w1) := hide (by rw [hw1]; exact (Below.refl _ _).alloc (Nat.le_refl _) _)
  have hs1 : w1.heap.size = w.heap.size + 1 := by rw [hw1]; simp only [World.size_alloc]
  rw [← hw1] at hS
  have HS0 := hide hS
  have HL := hide hl
  clear hm hx0 hl0 hsz hw1 hS hl
  by_cases h32 : 32 < n
  · have h32' : (32 : Int) < n := by omega
    have HE : Hid (namesB geS x0 = none) := hide (by rw [HNB.out, show riseB geS l = false from by rw [riseB, HL.out, decide_eq_true (by omega), decide_eq_false (by omega)]; rfl]; rfl)
    clear HNB
    go_enter Tryd.func13, Tryd.ntmps13
    go_wp2_with fail
    refine HS0.out.mono ?_
    rintro e w2 ⟨rfl, rfl⟩
    go_wp2_with fail
    exact bodyPost_ret (v := .tuple #[.slice none 0 0, .bool false]) (by simp [results, Tryd.results13, go_sem]) rfl ⟨none, 0, 0, by rw [HE.out]; rfl, by rw [HE.out]; exact .nil _ _ _ _ _ (Nat.zero_le _), HB1.out⟩
  · have h32' : ¬ (32 : Int) < n := by omega
    go_enter Tryd.func13, Tryd.ntmps13
    go_wp2_with fail
    refine HS0.out.mono ?_
    rintro e w2 ⟨rfl, rfl⟩
    go_wp2_with fail
    go_loopw [14] (fun i wr => ∃ k : Nat, k ≤ n ∧ i = .int .i64 (k : Int) ∧ Hid (rises geS (prevO l k) (l.drop k) = rises geS none l) ∧ Hid (Below w2.heap.size w2 wr)) (fun i _ => n - (intOf i).toNat)
    case atStart => exact ⟨0, Nat.zero_le _, rfl, hide rfl, hide (Below.refl _ _)⟩
    case round =>
      obtain ⟨k, hk, rfl, HT, HB⟩ := hrel
      have HRw := hide (HR.out.below HB.out)
      by_cases hlt : k < n
      · obtain ⟨x, hx⟩ : ∃ x, l[k]? = some x := ⟨_, List.getElem?_eq_getElem (by have := HL.out; omega)⟩
        have hx2 : (l.map txt)[k]? = some (txt x) := by rw [List.getElem?_map, hx]; rfl
        obtain ⟨p, o, hix, hcx, -, hsx⟩ := row_str (h := HRw.out) hx2
        have HS := hide (rises_step hx)
        cases hnm : isNm x with
        | false =>
          have HE : Hid (riseB geS l = false) := hide (by rw [(show riseB geS l = rises geS none l from by rw [riseB, HL.out, decide_eq_true (by omega), decide_eq_true (by omega)]; rfl), ← HT.out, HS.out, hnm]; rfl)
          have HN := hide hnm
          clear hx hx2 hnm
          go_wp2_with fail
          refine (c_lname (txt x) wr).mono ?_
          rintro e w5 ⟨rfl, b5⟩
          rw [byt_txt, HN.out]
          go_wp2_with fail
          exact bodyPost_ret (v := .tuple #[.slice none 0 0, .bool false]) (by simp [results, Tryd.results13, go_sem]) rfl ⟨none, 0, 0, by rw [HNB.out, HE.out]; rfl, by rw [HNB.out, HE.out]; exact .nil _ _ _ _ _ (Nat.zero_le _), HB1.out.trans ((HB.out.trans (b5.mono HB.out.size)).mono (by omega))⟩
        | true =>
          have HN := hide hnm
          by_cases h0 : k = 0
          · subst h0
            have hix0 : ∀ wx : World, (Instr.indexAt 22 (.slice (some ⟨w.heap.size, 0, none⟩) n n) (.int .i64 0)).run Tryd.prog wx = .ok (.pointer (some ⟨p, o, none⟩)) wx := hix
            clear hix
            have HT2 : Hid (rises geS (prevO l 1) (l.drop 1) = rises geS none l) := hide (by rw [← HT.out, HS.out, hnm]; simp [prevO])
            clear hx hx2 hnm
            go_wp2_with fail
            refine (c_lname (txt x) wr).mono ?_
            rintro e w5 ⟨rfl, b5⟩
            rw [byt_txt, HN.out]
            go_wp2_with fail
            go_roundw
            case rel => exact ⟨1, by omega, by simp, HT2, hide (HB.out.trans (b5.mono HB.out.size))⟩
            case measure => simp [intOf]; omega
          · have h0' : (0 : Int) < (k : Int) := by omega
            obtain ⟨q, hq⟩ : ∃ q, l[k - 1]? = some q := ⟨_, List.getElem?_eq_getElem (by have := HL.out; omega)⟩
            have hp : prevO l k = some q := by
              obtain ⟨j, rfl⟩ : ∃ j, k = j + 1 := ⟨k - 1, by omega⟩
              exact hq
            have hq2 : (l.map txt)[k - 1]? = some (txt q) := by rw [List.getElem?_map, hq]; rfl
            obtain ⟨p2, o2, hiy, hcy, hb2, -⟩ := row_str (h := HRw.out) hq2
            have hk1 : ((k - 1 : Nat) : Int) = (k : Int) - 1 := by omega
            rw [hk1] at hiy
            cases hge : geS q x with
            | true =>
              have HE : Hid (riseB geS l = false) := hide (by rw [(show riseB geS l = rises geS none l from by rw [riseB, HL.out, decide_eq_true (by omega), decide_eq_true (by omega)]; rfl), ← HT.out, HS.out, hnm, hp]; simp [hge])
              have hg : Op.bytesLess q x = false := by simpa [geS] using hge
              clear hx hx2 hnm hq hq2 hp hge
              go_wp2_with fail
              refine (c_lname (txt x) wr).mono ?_
              rintro e w5 ⟨rfl, b5⟩
              rw [byt_txt, HN.out]
              have hcy5 := (World.cell?_of_block (a := ⟨p2, o2, none⟩) (b5.block _ hb2)).trans hcy
              go_wp2_with fail
              exact bodyPost_ret (v := .tuple #[.slice none 0 0, .bool false]) (by simp [results, Tryd.results13, go_sem]) rfl ⟨none, 0, 0, by rw [HNB.out, HE.out]; rfl, by rw [HNB.out, HE.out]; exact .nil _ _ _ _ _ (Nat.zero_le _), HB1.out.trans ((HB.out.trans (b5.mono HB.out.size)).mono (by omega))⟩
            | false =>
              have HT2 : Hid (rises geS (prevO l (k + 1)) (l.drop (k + 1)) = rises geS none l) := hide (by rw [← HT.out, HS.out, hnm, hp]; simp [hge])
              have hg : Op.bytesLess q x = true := by simpa [geS] using hge
              clear hx hx2 hnm hq hq2 hp hge
              go_wp2_with fail
              refine (c_lname (txt x) wr).mono ?_
              rintro e w5 ⟨rfl, b5⟩
              rw [byt_txt, HN.out]
              have hcy5 := (World.cell?_of_block (a := ⟨p2, o2, none⟩) (b5.block _ hb2)).trans hcy
              go_wp2_with fail
              go_roundw
              case rel => exact ⟨k + 1, by omega, by simp, HT2, hide (HB.out.trans (b5.mono HB.out.size))⟩
              case measure => simp [intOf]; omega
      · obtain rfl : k = n := by omega
        have HE : Hid (riseB geS l = true) := hide (by rw [riseB, HL.out, decide_eq_true (by omega), decide_eq_true (by omega), ← HT.out, List.drop_eq_nil_of_le (Nat.le_of_eq HL.out)]; simp [rises])
        go_wp2_with fail
        exact bodyPost_ret (v := .tuple #[.slice (some ⟨w.heap.size, 0, none⟩) k k, .bool true]) (by simp [results, Tryd.results13, go_sem]) rfl ⟨some ⟨w.heap.size, 0, none⟩, k, k, by rw [HNB.out, HE.out]; rfl, by rw [HNB.out, HE.out]; exact HRw.out, HB1.out.trans (HB.out.mono HB1.out.size)⟩
end Go.Proofs.YtckcadhjpjjmjaaDoor
namespace Go.Proofs.YtckcadhjpjjmjaaDoor
open Go.RowKit
theorem row_cells {ok : Nat → Prop} {w : World} {A : Option Addr} {n c : Nat} {xs : List ByteArray} (h : kStr.Row ok w A n c xs) (hn : 0 < n) :
    ∃ b o, A = some ⟨b, o, none⟩ ∧ b < w.heap.size ∧ ∀ (j : Nat) (x : ByteArray), xs[j]? = some x → w.cell? ⟨b, o + j, none⟩ = some (.string x) := by
  obtain ⟨b, o, e, -, hb, hc⟩ := h.2.2.2 hn
  refine ⟨b, o, e, hb, fun j x hx => ?_⟩
  obtain ⟨cs, ⟨rfl, -⟩, hr⟩ := hc j x hx
  have := hr 0 _ rfl
  simpa [kStr, Kd.cell] using this
theorem row_getD {ok : Nat → Prop} {w : World} {A : Option Addr} {n c : Nat} {xs : List ByteArray} (h : kStr.Row ok w A n c xs) (hn : 0 < n) :
    ∃ b o, A = some ⟨b, o, none⟩ ∧ b < w.heap.size ∧ ∀ j, j < xs.length → w.cell? ⟨b, o + j, none⟩ = some (.string (xs.getD j ByteArray.empty)) := by
  obtain ⟨b, o, e, hb, hc⟩ := row_cells h hn
  refine ⟨b, o, e, hb, fun j hj => ?_⟩
  have := hc j xs[j] (List.getElem?_eq_getElem hj)
  rw [this, List.getD_eq_getElem?_getD, List.getElem?_eq_getElem hj]
  rfl
/-- Two rows of texts compared by the library. -/
theorem c_equal (A B : Option Addr) (n c m d : Nat) (xs ys : List ByteArray) (ok ok' : Nat → Prop) (w : World) (hR : kStr.Row ok w A n c xs) (hS : kStr.Row ok' w B m d ys) :
    Calls Tryd.prog 49 #[.slice A n c, .slice B m d] w fun e w' => e = .returned (.bool (decide (xs = ys))) ∧ Below w.heap.size w w' := by
  have hn := hR.1
  have hm := hS.1
  have hn63 : n ≤ 9223372036854775807 := Nat.le_trans hR.2.1 hR.2.2.1
  have hm63 : m ≤ 9223372036854775807 := Nat.le_trans hS.2.1 hS.2.2.1
  by_cases hnm : n = m
  · subst hnm
    rcases Nat.eq_zero_or_pos n with h0 | h0
    · subst h0
      have e1 : xs = [] := List.length_eq_zero_iff.1 hn
      have e2 : ys = [] := List.length_eq_zero_iff.1 hm
      refine (Tryd.slices_Equal_string_empty A B c 0 d w (by decide)).mono ?_
      rintro e w' ⟨rfl, rfl⟩
      exact ⟨by rw [e1, e2]; rfl, Below.refl _ _⟩
    · obtain ⟨b, o, rfl, -, hc⟩ := row_getD hR h0
      obtain ⟨b2, o2, rfl, -, hd⟩ := row_getD hS h0
      refine (Tryd.slices_Equal_string b o n c b2 o2 n d xs ys w (by omega) (by omega) hn63 hn63 hc hd).mono ?_
      rintro e w' ⟨rfl, q, rfl⟩
      exact ⟨by rw [List.take_of_length_le (Nat.le_of_eq hn), List.take_of_length_le (Nat.le_of_eq hm)], ⟨rfl, rfl, rfl, Nat.le_refl _, fun _ _ => rfl⟩⟩
  · refine (Tryd.slices_Equal_string_lens A B n c m d w hnm).mono ?_
    rintro e w' ⟨rfl, rfl⟩
    exact ⟨by rw [decide_eq_false (fun e => hnm (by rw [← hn, ← hm, e]))], Below.refl _ _⟩
/-- Texts joined by the library. -/
theorem c_sjoin (A : Option Addr) (n c : Nat) (l : List (List UInt8)) (ok : Nat → Prop) (w : World) (hR : kStr.Row ok w A n c (l.map txt)) (hj : (Lib.join l [44]).length ≤ 140737488355328) (hn : n ≤ 140737488355328) :
    Calls Tryd.prog 48 #[.slice A n c, .string ⟨#[44]⟩] w fun e w' => e = .returned (.string (txt (Lib.join l [44]))) ∧ Below w.heap.size w w' := by
  have hl : (l.map txt).length = n := hR.1
  have e2 : ((l.map txt).map (·.data.toList)) = l := by
    rw [List.map_map]
    conv => rhs; rw [← List.map_id l]
    exact List.map_congr_left fun x _ => byt_txt x
  rcases Nat.eq_zero_or_pos n with h0 | h0
  · subst h0
    have e1 : l = [] := by simpa using hl
    refine (Tryd.strings_Join_none A c ⟨#[44]⟩ w).mono ?_
    rintro e w' ⟨rfl, rfl⟩
    exact ⟨by rw [e1]; rfl, Below.refl _ _⟩
  · obtain ⟨b, o, rfl, hb, hc⟩ := row_cells hR h0
    have h := Tryd.strings_Join b o c (l.map txt) ⟨#[44]⟩ w hc hb (by omega) (by rw [hl]; exact hR.2.1) (by rw [e2]; exact hj)
    rw [e2, hl] at h
    exact h
set_option maxRecDepth 100000 in
set_option maxHeartbeats 1600000 in
theorem c_ljoin (A : Option Addr) (n c : Nat) (l : List (List UInt8)) (m : Int) (ok : Nat → Prop) (w : World) (hR : kStr.Row ok w A n c (l.map txt)) (hj : (Lib.join l [44]).length ≤ 1000000) (hn : n ≤ 1000000) (hm : w.cell? ⟨5, 0, none⟩ = some (.int .i64 m)) :
    Calls Tryd.prog 12 #[.slice A n c] w fun e w' => e = .returned (.string (txt (joinB geS l))) ∧ Below w.heap.size w w' := by
  have hB := join_back geS l
  obtain ⟨j, hj0⟩ : ∃ j, Lib.join l [44] = j := ⟨_, rfl⟩
  have hJ := c_sjoin A n c l ok w hR (by omega) (by omega)
  rw [hj0] at hJ hB hj
  obtain ⟨r, hr⟩ : ∃ r, joinB geS l = r := ⟨_, rfl⟩
  rw [hr] at hB ⊢
  have h5 : 5 < w.heap.size := World.block_lt_of_cell? _ _ hm
  have HB := hide hB
  have HR := hide hR
  have HM := hide hm
  have HJL := hide hj
  clear hB hR hm hj hj0 hr
  go_enter Tryd.func12, Tryd.ntmps12
  go_wp2_with fail
  refine hJ.mono ?_
  rintro e w1 ⟨rfl, b1⟩
  have HB1 := hide b1
  have hm1 : w1.cell? ⟨5, 0, none⟩ = some (.int .i64 m) := (b1.cell (p := ⟨5, 0, none⟩) h5).trans HM.out
  have HM1 := hide hm1
  clear hJ b1 hm1
  go_wp2_with fail
  refine (c_lnames j m w1 HJL.out HM1.out).mono ?_
  rintro e w2 ⟨A2, n2, c2, rfl, hr2, b2⟩
  have HB2 := hide (HB1.out.trans (b2.mono HB1.out.size))
  cases hnb : namesB geS j with
  | none =>
    have HE : Hid (r = []) := hide (by have := HB.out; rw [hnb] at this; exact this.symm)
    clear hr2 b2 hnb
    go_wp2_with fail
    go_ret
    exact ⟨by rw [HE.out]; rfl, HB2.out⟩
  | some mm =>
    rw [hnb] at hr2
    have hr2' : kStr.Row (fun k => w1.heap.size ≤ k) w2 A2 n2 c2 (mm.map txt) := hr2
    have HR2 := hide hr2'
    have HRl := hide ((HR.out.below HB2.out))
    have HE0 : Hid ((if mm = l then j else []) = r) := hide (by have := HB.out; rw [hnb] at this; exact this)
    have hdd : decide (mm.map txt = l.map txt) = decide (mm = l) := by
      rw [Bool.eq_iff_iff, decide_eq_true_eq, decide_eq_true_eq]
      refine ⟨fun e => ?_, fun e => by rw [e]⟩
      have h := congrArg (List.map byt) e
      rw [List.map_map, List.map_map] at h
      have e3 : ∀ q : List (List UInt8), List.map (byt ∘ txt) q = q := fun q => by
        conv => rhs; rw [← List.map_id q]
        exact List.map_congr_left fun x _ => byt_txt x
      rwa [e3, e3] at h
    have HDD := hide hdd
    clear hr2 hr2' b2 hnb hdd
    go_wp2_with fail
    refine (c_equal A2 A n2 c2 n c _ _ _ _ w2 HR2.out HRl.out).mono ?_
    rintro e w3 ⟨rfl, b3⟩
    rw [HDD.out]
    have HB3 := hide (HB2.out.trans (b3.mono HB2.out.size))
    clear b3
    by_cases hml : mm = l
    · have HE : Hid (r = j) := hide (by rw [← HE0.out, if_pos hml])
      rw [decide_eq_true hml]
      clear hml
      go_wp2_with fail
      go_ret
      exact ⟨by rw [HE.out]; rfl, HB3.out⟩
    · have HE : Hid (r = []) := hide (by rw [← HE0.out, if_neg hml])
      rw [decide_eq_false hml]
      clear hml
      go_wp2_with fail
      go_ret
      exact ⟨by rw [HE.out]; rfl, HB3.out⟩
end Go.Proofs.YtckcadhjpjjmjaaDoor
namespace Go.Proofs.YtckcadhjpjjmjaaDoor
open Go.RowKit
section
variable {P : Program} {α : Type} {d : Kd α} {ok : Nat → Prop} {w : World} {A : Option Addr} {n c : Nat} {xs : List α} {T E : TypeId}
theorem elem_of (hT : P.underlying T = some (.slice E)) : P.underlying T = some (.slice (P.elem T)) := by
  have : P.elem T = E := by simp [Program.elem, hT]
  rw [this]; exact hT
theorem size_run (hE : (P.info? E).map (·.size) = some d.sz) (wx : World) : (sizeOf E).run P wx = .ok d.sz wx := by
  cases hq : P.info? E with
  | none => simp [hq] at hE
  | some i => simp [hq] at hE; simp [sizeOf, typeInfo, hq, hE]
theorem Kd.Row.from (h : d.Row ok w A n c xs) (hT : P.underlying T = some (.slice E)) (hE : (P.info? E).map (·.size) = some d.sz) {k : Nat} (hk : k ≤ n) (kd : IntKind) (i : Int) (hi : i = k) :
    ∃ B, (∀ wx : World, (Instr.sliceAt T (.slice A n c) (some (.int kd i)) none none).run P wx = .ok (.slice B (n - k) (c - k)) wx) ∧ d.Row ok w B (n - k) (c - k) (xs.drop k) := by
  refine ⟨_, fun wx => ?_, h.drop hk⟩
  subst hi
  have e : P.elem T = E := by simp [Program.elem, hT]
  rw [run_sliceAt_slice _ _ _ _ _ _ (elem_of hT), run_slice_l wx T A n c (elem_of hT) kd k (by omega) (by omega), e, size_run hE]
  simp [Result.andThen, sliced]
theorem Kd.Row.upto (h : d.Row ok w A n c xs) (hT : P.underlying T = some (.slice E)) (hE : (P.info? E).map (·.size) = some d.sz) {k : Nat} (hk : k ≤ n) (kd : IntKind) (i : Int) (hi : i = k) :
    (∀ wx : World, (Instr.sliceAt T (.slice A n c) none (some (.int kd i)) none).run P wx = .ok (.slice A k c) wx) ∧ d.Row ok w A k c (xs.take k) := by
  refine ⟨fun wx => ?_, h.take hk⟩
  subst hi
  have e : P.elem T = E := by simp [Program.elem, hT]
  have hc := h.2.1
  rw [run_sliceAt_slice _ _ _ _ _ _ (elem_of hT), run_slice_h wx T A n c (elem_of hT) kd k (by omega) (by omega), e, size_run hE]
  simp [Result.andThen, sliced, Addr.add]
/-- []byte(text), where the walk stands at it. -/
theorem at_tobytes {ops : Array Oper} {rest : List Oper} {a : Act} {Q : Exit → Act → World → Prop} {dst : Option Tmp} {ty : TypeId} {pos : String} {after : Array Edge} {x : Operand} (S D : TypeId) (s : ByteArray) (hx : a.eval x = .string s)
    (hS : P.underlying S = some .string) (hD : P.underlying D = some (.slice E)) (hE : P.underlying E = some (.int .u8)) (hs : s.size ≤ 9223372036854775807) (H : Nat) (hH : w.heap.size = H)
    (k : ∀ c w', kU8.Row (fun k => k = H) w' (some ⟨H, 0, none⟩) s.size c (byt s) → Below H w w' → H < w'.heap.size → wpList P ops Q rest (a.put dst (.slice (some ⟨H, 0, none⟩) s.size c)) w') :
    wpList P ops Q (⟨dst, .convert S D x, ty, pos, after, none⟩ :: rest) a w :=
  wpList_tobytes rfl S D x rfl s hx hS hD hE hs H hH k
end
end Go.Proofs.YtckcadhjpjjmjaaDoor
namespace Go.Proofs.YtckcadhjpjjmjaaDoor
open Go.RowKit

section
variable {P : Program} {ops : Array Oper}

/-- The operations that surely came ahead of one (so deep). -/
def needs (ops : Array Oper) : Nat → Nat → List Nat
  | 0, _ => []
  | f + 1, i => match ops[i]? with
    | none => []
    | some o => (o.after.toList.filter fun e => Region.binds .any e).flatMap fun e => e.on :: needs ops f e.on
def dstAt (ops : Array Oper) (i : Nat) : Option Tmp := (ops[i]?).bind (·.dst)
/-- What is looked up of a region: edges point back; no slot is written twice; from the n-th on each operation waits for all ahead of it. -/
def regOk (ops : Array Oper) (n : Nat) : Bool :=
  (List.range ops.size).all (fun i => ((ops[i]?).map fun o => o.after.all fun e => !Region.binds .any e || decide (e.on < i)).getD true) &&
  (List.range ops.size).all (fun i => (List.range i).all fun j => match dstAt ops i, dstAt ops j with | some d, some e => d != e || decide (n ≤ i) | _, _ => true) &&
  (List.range ops.size).all (fun i => decide (i < n) || (List.range i).all fun j => (needs ops ops.size i).contains j) && decide (n ≤ ops.size)
/-- Is it a slot that none of the first n operations writes? -/
def freeSlot (ops : Array Oper) (n : Nat) (t : Tmp) : Bool := (List.range n).all fun i => dstAt ops i != some t

/-- The values of the first n operations, laid in their slots. -/
def putN (ops : Array Oper) (vs : Nat → Value) : Nat → Act → Act
  | 0, a => a
  | n + 1, a => (putN ops vs n a).put (dstAt ops n) (vs n)

theorem put_size (a : Act) (d : Option Tmp) (v : Value) : (a.put d v).tmps.size = a.tmps.size := by cases d <;> simp [Act.put]
theorem put_defers' (a : Act) (d : Option Tmp) (v : Value) : (a.put d v).defers = a.defers := by cases d <;> rfl
theorem getD_put_same {a : Act} {d : Tmp} {v : Value} (h : d < a.tmps.size) : (a.put (some d) v).tmps.getD d undef = v := by
  simp [Act.put, h]
theorem getD_put_ne {a : Act} {d : Option Tmp} {t : Tmp} {v : Value} (h : d ≠ some t) : (a.put d v).tmps.getD t undef = a.tmps.getD t undef := by
  cases d with
  | none => rfl
  | some d =>
    have : d ≠ t := fun e => h (by rw [e])
    simp [Act.put, Array.getElem?_setIfInBounds_ne this]

def cnt (l : Array Bool) : Nat → Nat
  | 0 => 0
  | n + 1 => cnt l n + (if l.getD n false = true then 0 else 1)
theorem getD_set_same {l : Array Bool} {i : Nat} (h : i < l.size) (d : Bool) : (l.setIfInBounds i true).getD i d = true := by simp [h]
theorem cnt_far {l : Array Bool} {i : Nat} : ∀ {n : Nat}, n ≤ i → cnt (l.setIfInBounds i true) n = cnt l n
  | 0, _ => rfl
  | n + 1, h => by rw [cnt, cnt, cnt_far (by omega), getD_set_ne false (by omega)]
theorem cnt_set {l : Array Bool} {i : Nat} (hi : i < l.size) (h0 : l.getD i false = false) : ∀ {n : Nat}, i < n → cnt (l.setIfInBounds i true) n + 1 = cnt l n
  | 0, h => absurd h (by omega)
  | n + 1, h => by
    rw [cnt, cnt]
    by_cases e : i = n
    · subst e
      rw [cnt_far (Nat.le_refl _), getD_set_same hi, h0]
      simp
    · have := cnt_set hi h0 (n := n) (by omega)
      rw [getD_set_ne false e]
      omega
theorem cnt_zero {l : Array Bool} : ∀ {n : Nat}, cnt l n = 0 → ∀ i, i < n → l.getD i false = true
  | 0, _, i, hi => absurd hi (by omega)
  | n + 1, h, i, hi => by
    rw [cnt] at h
    by_cases e : i = n
    · subst e
      by_cases hb : l.getD i false = true
      · exact hb
      · rw [if_neg hb] at h; omega
    · exact cnt_zero (n := n) (by omega) i (by omega)

/-- What is listed waits for nothing that isn't. -/
def Closed (ops : Array Oper) (l : Array Bool) : Prop := ∀ (i : Nat) (o : Oper), ops[i]? = some o → l.getD i false = true → ∀ e ∈ o.after, Region.binds .any e = true → l.getD e.on false = true
theorem needs_listed {l : Array Bool} (hc : Closed ops l) : ∀ (f i : Nat) (o : Oper), ops[i]? = some o → (∀ e ∈ o.after, Region.binds .any e = true → l.getD e.on false = true) → ∀ j ∈ needs ops f i, l.getD j false = true
  | 0, _, _, _, _, j, hj => by simp [needs] at hj
  | f + 1, i, o, ho, he, j, hj => by
    rw [needs, ho] at hj
    simp only [List.mem_flatMap, List.mem_filter] at hj
    obtain ⟨e, ⟨hem, hb⟩, hj⟩ := hj
    have hl := he e (by simpa using hem) hb
    rcases List.mem_cons.1 hj with rfl | hj
    · exact hl
    · cases hq : ops[e.on]? with
      | none =>
        cases f with
        | zero => simp [needs] at hj
        | succ f => rw [needs, hq] at hj; simp at hj
      | some o' => exact needs_listed hc f e.on o' hq (hc e.on o' hq hl) j hj

theorem regOk_edges {n : Nat} (h : regOk ops n = true) {i : Nat} {o : Oper} (ho : ops[i]? = some o) : ∀ e ∈ o.after, Region.binds .any e = true → e.on < i := by
  intro e he hb
  simp only [regOk, Bool.and_eq_true, List.all_eq_true, List.mem_range] at h
  have hi : i < ops.size := (Array.getElem?_eq_some_iff.1 ho).1
  have h1 := h.1.1.1 i hi
  rw [ho] at h1
  simp only [Option.map_some, Option.getD_some, Array.all_eq_true_iff_forall_mem, Bool.or_eq_true, decide_eq_true_eq] at h1
  rcases h1 e he with h' | h'
  · simp [hb] at h'
  · exact h'
theorem regOk_tail {n : Nat} (h : regOk ops n = true) {i j : Nat} (hi : i < ops.size) (hn : n ≤ i) (hj : j < i) : j ∈ needs ops ops.size i := by
  simp only [regOk, Bool.and_eq_true, List.all_eq_true, List.mem_range, Bool.or_eq_true, decide_eq_true_eq] at h
  rcases h.1.2 i hi with h' | h'
  · omega
  · simpa using h' j hj
theorem regOk_dst {n : Nat} (h : regOk ops n = true) {i j : Nat} (hi : i < n) (hj : j < n) (hne : i ≠ j) {d : Tmp} (h1 : dstAt ops i = some d) (h2 : dstAt ops j = some d) : False := by
  have hn : n ≤ ops.size := by simp only [regOk, Bool.and_eq_true, decide_eq_true_eq] at h; exact h.2
  simp only [regOk, Bool.and_eq_true, List.all_eq_true, List.mem_range] at h
  have hd := h.1.1.2
  rcases Nat.lt_or_gt_of_ne hne with hlt | hlt
  · have := hd j (by omega) i hlt
    rw [h1, h2] at this
    simp at this
    omega
  · have := hd i (by omega) j hlt
    rw [h1, h2] at this
    simp at this
    omega

/-- The tail: one operation behind the other. -/
theorem wpAny_tail {Q : Exit → Act → World → Prop} {n : Nat} (hok : regOk ops n = true) : ∀ (fuel k : Nat) (l : Array Bool) (a : Act) (w : World), l.size = ops.size → n ≤ k → k ≤ ops.size → ops.size ≤ k + fuel →
    (∀ i, i < ops.size → (l.getD i false = true ↔ i < k)) → wpList P ops Q (ops.toList.drop k) a w → wpAny P .any ops Q fuel l a w := by
  intro fuel
  induction fuel with
  | zero =>
    intro k l a w hs hn hk hf hl h
    have hk' : k = ops.size := by omega
    refine ⟨?_, ?_⟩
    · apply List.eq_nil_iff_forall_not_mem.2
      intro j hj
      obtain ⟨h0, o, ho, _⟩ := mem_ready.1 hj
      have hj' : j < ops.size := (Array.getElem?_eq_some_iff.1 ho).1
      have := (hl j hj').2 (by omega)
      simp [hs, hj'] at h0 this
      simp [h0] at this
    · rw [hk', List.drop_eq_nil_of_le (by simp)] at h
      exact h
  | succ fuel ih =>
    intro k l a w hs hn hk hf hl h
    by_cases hke : k = ops.size
    · refine wpAny_done ?_ ?_ _
      · apply List.eq_nil_iff_forall_not_mem.2
        intro j hj
        obtain ⟨h0, o, ho, _⟩ := mem_ready.1 hj
        have hj' : j < ops.size := (Array.getElem?_eq_some_iff.1 ho).1
        have := (hl j hj').2 (by omega)
        simp [hs, hj'] at h0 this
        simp [h0] at this
      · rw [hke, List.drop_eq_nil_of_le (by simp)] at h
        exact h
    · have hk' : k < ops.size := by omega
      have hok' : ops[k]? = some ops[k] := Array.getElem?_eq_getElem hk'
      have hrk : k ∈ Region.ready .any ops l := by
        refine mem_ready.2 ⟨?_, _, hok', fun e he hb => (hl _ ?_).2 (regOk_edges hok hok' e he hb)⟩
        · have : ¬ l.getD k false = true := fun h' => by have := (hl k hk').1 h'; omega
          simp [hs, hk'] at this ⊢
          exact this
        · have := regOk_edges hok hok' e he hb; omega
      refine ⟨fun h0 => (by rw [h0] at hrk; simp at hrk), fun i hi => ?_⟩
      have hik : i = k := by
        obtain ⟨h0, o, ho, hall⟩ := mem_ready.1 hi
        have hi' : i < ops.size := (Array.getElem?_eq_some_iff.1 ho).1
        have h1 : ¬ i < k := fun hlt => by
          have := (hl i hi').2 hlt
          simp [hs, hi'] at h0 this
          simp [h0] at this
        rcases Nat.lt_or_ge k i with hlt | hge
        · have hcl : Closed ops l := fun i' o' ho' hl' e he hb => by
            have hi'' : i' < ops.size := (Array.getElem?_eq_some_iff.1 ho').1
            have h2 := (hl i' hi'').1 hl'
            have h3 := regOk_edges hok ho' e he hb
            exact (hl _ (by omega)).2 (by omega)
          have := needs_listed hcl ops.size i o ho hall k (regOk_tail hok hi' (by omega) hlt)
          have := (hl k hk').1 this
          omega
        · omega
      subst hik
      have hd : ops.toList.drop i = ops[i] :: ops.toList.drop (i + 1) := by
        rw [List.drop_eq_getElem_cons (by simpa using hk')]
        simp
      rw [hd] at h
      unfold wpList at h
      have hnext : ∀ a w, wpList P ops Q (ops.toList.drop (i + 1)) a w → wpAny P .any ops Q fuel (l.setIfInBounds i true) a w := by
        intro a w h
        refine ih (i + 1) _ a w (by simpa using hs) (by omega) (by omega) (by omega) (fun j hj => ?_) h
        by_cases e : i = j
        · subst e
          simp [hs, hk']
        · rw [getD_set_ne false e, hl j hj]
          omega
      unfold wpOp
      rw [hok']
      simp only
      split
      · rename_i hw
        rw [if_pos hw] at h
        exact h.imp (Oper.wp_mono hnext) id
      · rename_i hw
        rw [if_neg hw] at h
        exact hnext _ _ h

theorem putN_size (vs : Nat → Value) (a : Act) : ∀ n, (putN ops vs n a).tmps.size = a.tmps.size ∧ (putN ops vs n a).defers = a.defers
  | 0 => ⟨rfl, rfl⟩
  | n + 1 => by have := putN_size vs a n; exact ⟨(put_size _ _ _).trans this.1, (put_defers' _ _ _).trans this.2⟩
theorem putN_free (vs : Nat → Value) (a : Act) {t : Tmp} : ∀ n, (∀ i, i < n → dstAt ops i ≠ some t) → (putN ops vs n a).tmps.getD t undef = a.tmps.getD t undef
  | 0, _ => rfl
  | n + 1, h => by
    rw [putN, getD_put_ne (h n (by omega))]
    exact putN_free vs a n fun i hi => h i (by omega)
theorem putN_at (vs : Nat → Value) (a : Act) {t : Tmp} (ht : t < a.tmps.size) {i : Nat} (hi : dstAt ops i = some t) : ∀ n, i < n → (∀ j, j < n → j ≠ i → dstAt ops j ≠ some t) → (putN ops vs n a).tmps.getD t undef = vs i
  | 0, h, _ => absurd h (by omega)
  | n + 1, h, hd => by
    rw [putN]
    by_cases e : i = n
    · subst e
      rw [hi]
      exact getD_put_same (by rw [(putN_size vs a i).1]; exact ht)
    · rw [getD_put_ne (hd n (by omega) (fun e' => e e'.symm))]
      exact putN_at vs a ht hi n (by omega) fun j hj hne => hd j (by omega) hne

/-- THE LAW. S i: what is known of the value that operation i yields, and goes on to hold; Le: how worlds grow. -/
theorem wp_region_mono {Q : Exit → Act → World → Prop} {id : Nat} {a0 : Act} {w0 : World} (hm : P.follows .mixedOrders = true) (n : Nat) (hok : regOk ops n = true)
    (hslots : ((List.range n).all fun i => (dstAt ops i).all fun d => decide (d < a0.tmps.size)) = true)
    (Le : World → World → Prop) (hrefl : ∀ w, Le w w) (htrans : ∀ w w' w'', Le w w' → Le w' w'' → Le w w'')
    (S : Nat → Value → World → Prop) (hS : ∀ i v w w', Le w w' → S i v w → S i v w')
    (hop : ∀ i, i < n → ∀ o, ops[i]? = some o → ∀ (a : Act) (w : World), Le w0.drew w → a.defers = a0.defers → (∀ t, freeSlot ops n t = true → a.tmps.getD t undef = a0.tmps.getD t undef) →
      (∀ j d, (needs ops ops.size i).contains j = true → dstAt ops j = some d → S j (a.tmps.getD d undef) w) →
      ∀ K : Act → World → Prop, (∀ v w', Le w w' → S i v w' → K (a.put o.dst v) w') → if Region.wanted o (yielded ops a.tmps) = true then o.wp P a w K Q else K (a.put o.dst undef) w)
    (hQ : ∀ (vs : Nat → Value) (w : World), Le w0.drew w → (∀ i, i < n → (dstAt ops i).isSome = true → S i (vs i) w) → wpList P ops Q (ops.toList.drop n) (putN ops vs n a0) w) :
    (Code.region id ops true).wp P Q a0 w0 := by
  refine wp_region_any hm ?_
  have hnsz : n ≤ ops.size := by simp only [regOk, Bool.and_eq_true, decide_eq_true_eq] at hok; exact hok.2
  have hslot : ∀ i d, i < n → dstAt ops i = some d → d < a0.tmps.size := by
    intro i d hi hd
    have := List.all_eq_true.1 hslots i (by simpa using hi)
    rw [hd] at this
    simpa using this
  have key : ∀ (fuel : Nat) (l : Array Bool) (a : Act) (w : World), l.size = ops.size → cnt l ops.size ≤ fuel → Closed ops l → (∀ i, n ≤ i → i < ops.size → l.getD i false = false) → Le w0.drew w → a.defers = a0.defers → a.tmps.size = a0.tmps.size →
      (∀ t, (∀ i, i < n → l.getD i false = true → dstAt ops i ≠ some t) → a.tmps.getD t undef = a0.tmps.getD t undef) →
      (∀ i d, i < n → l.getD i false = true → dstAt ops i = some d → S i (a.tmps.getD d undef) w) → wpAny P .any ops Q fuel l a w := by
    intro fuel
    -- all of the first n are listed: the tail
    have tail : ∀ (fuel : Nat) (l : Array Bool) (a : Act) (w : World), l.size = ops.size → cnt l ops.size ≤ fuel → (∀ i, n ≤ i → i < ops.size → l.getD i false = false) → (∀ i, i < n → l.getD i false = true) → Le w0.drew w → a.defers = a0.defers → a.tmps.size = a0.tmps.size →
        (∀ t, (∀ i, i < n → l.getD i false = true → dstAt ops i ≠ some t) → a.tmps.getD t undef = a0.tmps.getD t undef) →
        (∀ i d, i < n → l.getD i false = true → dstAt ops i = some d → S i (a.tmps.getD d undef) w) → wpAny P .any ops Q fuel l a w := by
      intro fuel l a w hs hc ht hall hle hd hsz hfree hSi
      have hcn : ∀ m, m ≤ ops.size → n ≤ m → cnt l m = m - n := by
        intro m
        induction m with
        | zero => intro _ h; rw [cnt]; omega
        | succ m ih =>
          intro h1 h2
          rw [cnt]
          by_cases e : n = m + 1
          · have : ∀ q, q ≤ m + 1 → cnt l q = 0 := by
              intro q
              induction q with
              | zero => intro _; rfl
              | succ q ihq => intro hq; rw [cnt, ihq (by omega), if_pos (hall q (by omega))]
            have h3 := this m (by omega)
            rw [h3, if_pos (hall m (by omega))]; omega
          · rw [ih (by omega) (by omega), ht m (by omega) (by omega)]
            simp; omega
      refine wpAny_tail hok fuel n l a w hs (Nat.le_refl _) hnsz (by have := hcn ops.size (Nat.le_refl _) hnsz; omega) (fun i hi => ⟨fun h => ?_, fun h => hall i h⟩) ?_
      · rcases Nat.lt_or_ge i n with h' | h'
        · exact h'
        · rw [ht i h' hi] at h; cases h
      · have ha : a = putN ops (fun i => ((dstAt ops i).map fun d => a.tmps.getD d undef).getD undef) n a0 := by
          have h1 := putN_size (ops := ops) (fun i => ((dstAt ops i).map fun d => a.tmps.getD d undef).getD undef) a0 n
          have ht : a.tmps = (putN ops (fun i => ((dstAt ops i).map fun d => a.tmps.getD d undef).getD undef) n a0).tmps := by
            apply Array.ext
            · rw [h1.1, hsz]
            · intro t ht1 ht2
              have hg : a.tmps.getD t undef = (putN ops (fun i => ((dstAt ops i).map fun d => a.tmps.getD d undef).getD undef) n a0).tmps.getD t undef := by
                by_cases hex : ∃ i, i < n ∧ dstAt ops i = some t
                · obtain ⟨i, hi, hdi⟩ := hex
                  rw [putN_at _ a0 (hsz ▸ ht1) hdi n hi (fun j hj hne hdj => regOk_dst hok hj hi hne hdj hdi)]
                  simp only [hdi, Option.map_some, Option.getD_some]
                · rw [putN_free _ a0 n (fun i hi hdi => hex ⟨i, hi, hdi⟩)]
                  exact hfree t fun i hi _ hdi => hex ⟨i, hi, hdi⟩
              have e1 : ∀ (A : Array Value) (h : t < A.size), A.getD t undef = A[t] := fun A h => by unfold Array.getD; rw [dif_pos h]; rfl
              rw [e1 _ ht1, e1 _ ht2] at hg
              exact hg
          cases a with
          | mk ta da =>
            cases hp : putN ops (fun i => ((dstAt ops i).map fun d => (Act.mk ta da).tmps.getD d undef).getD undef) n a0 with
            | mk tb db =>
              rw [hp] at ht h1
              simp only at ht h1 hd
              rw [ht, hd, h1.2]
        rw [ha]
        refine hQ _ w hle fun i hi hsome => ?_
        obtain ⟨d, hdi⟩ := Option.isSome_iff_exists.1 hsome
        simp only [hdi, Option.map_some, Option.getD_some]
        exact hSi i d hi (hall i hi) hdi
    induction fuel with
    | zero =>
      intro l a w hs hc hcl ht hle hd hsz hfree hSi
      have hz := cnt_zero (l := l) (n := ops.size) (by omega)
      exact tail 0 l a w hs hc ht (fun i hi => hz i (by omega)) hle hd hsz hfree hSi
    | succ fuel ih =>
      intro l a w hs hc hcl ht hle hd hsz hfree hSi
      by_cases hall : ∀ i, i < n → l.getD i false = true
      · exact tail _ l a w hs hc ht hall hle hd hsz hfree hSi
      · refine ⟨fun h0 => absurd ?_ hall, fun i hi => ?_⟩
        · -- nothing is ready: all are listed
          intro i
          induction i using Nat.strongRecOn with
          | _ i ihi =>
            intro hi
            by_cases hb : l.getD i false = true
            · exact hb
            · exfalso
              have hi' : i < ops.size := by omega
              have : i ∈ Region.ready .any ops l := mem_ready.2 ⟨by simp [hs, hi'] at hb ⊢; exact hb, _, Array.getElem?_eq_getElem hi', fun e he hbd => by
                have hlt := regOk_edges hok (Array.getElem?_eq_getElem hi') e he hbd
                exact ihi e.on hlt (by omega)⟩
              rw [h0] at this
              simp at this
        · obtain ⟨h0, o, ho, hallo⟩ := mem_ready.1 hi
          have hi' : i < ops.size := (Array.getElem?_eq_some_iff.1 ho).1
          have h0' : l.getD i false = false := by simp [hs, hi'] at h0 ⊢; exact h0
          have hin : i < n := by
            rcases Nat.lt_or_ge i n with h' | h'
            · exact h'
            · exfalso
              refine hall fun j hj => needs_listed hcl ops.size i o ho hallo j (regOk_tail hok hi' h' (by omega))
          have hneeds := needs_listed hcl ops.size i o ho hallo
          have hdst : dstAt ops i = o.dst := by simp [dstAt, ho]
          have hnext : ∀ v w', Le w w' → S i v w' → wpAny P .any ops Q fuel (l.setIfInBounds i true) (a.put o.dst v) w' := by
            intro v w' hlw hSv
            refine ih _ _ _ (by simpa using hs) (by have := cnt_set (by omega) h0' hi'; omega) ?_ ?_ (htrans _ _ _ hle hlw) (by rw [put_defers']; exact hd) (by rw [put_size]; exact hsz) ?_ ?_
            · intro i' o' ho' hl' e he hb
              by_cases e' : i = i'
              · subst e'
                rw [ho] at ho'
                have := Option.some.inj ho'
                subst this
                exact getD_set_true (hallo e he hb)
              · rw [getD_set_ne false e'] at hl'
                exact getD_set_true (hcl i' o' ho' hl' e he hb)
            · intro j hj hj'
              rw [getD_set_ne false (by omega)]
              exact ht j hj hj'
            · intro t hft
              rw [getD_put_ne]
              · exact hfree t fun j hj hlj => hft j hj (getD_set_true hlj)
              · rw [← hdst]
                exact hft i hin (getD_set_same (by omega) _)
            · intro j d hj hlj hdj
              by_cases e : i = j
              · subst e
                rw [← hdst, hdj, getD_put_same (by rw [hsz]; exact hslot i d hin hdj)]
                exact hSv
              · rw [getD_set_ne false e] at hlj
                rw [getD_put_ne]
                · exact hS j _ w w' hlw (hSi j d hj hlj hdj)
                · rw [← hdst]
                  exact fun h => regOk_dst hok hin hj e h hdj
          have := hop i hin o ho a w hle hd (fun t hft => hfree t fun j hj _ hdj => by
              simp only [freeSlot, List.all_eq_true, List.mem_range, bne_iff_ne] at hft
              exact hft j hj hdj)
            (fun j d hj hdj => by
              have hjm : j ∈ needs ops ops.size i := by simpa using hj
              have hlj := hneeds j hjm
              have hjn : j < n := by
                rcases Nat.lt_or_ge j n with h' | h'
                · exact h'
                · exfalso
                  rcases Nat.lt_or_ge j ops.size with h'' | h''
                  · rw [ht j h' h''] at hlj; cases hlj
                  · simp [dstAt, Array.getElem?_eq_none h''] at hdj
              exact hSi j d hjn hlj hdj)
            (wpAny P .any ops Q fuel (l.setIfInBounds i true)) hnext
          unfold wpOp
          rw [ho]
          simp only
          split
          · rename_i hw; rw [if_pos hw] at this; exact .inl this
          · rename_i hw; rw [if_neg hw] at this; exact this
  refine key ops.size _ a0 w0.drew (by simp) ?_ ?_ ?_ (hrefl _) rfl rfl (fun _ _ => rfl) ?_
  · have : ∀ (l : Array Bool) m, cnt l m ≤ m := by
      intro l m
      induction m with
      | zero => exact Nat.le_refl _
      | succ m ih => rw [cnt]; split <;> omega
    exact this _ _
  · intro i o ho hl
    have hi : i < ops.size := (Array.getElem?_eq_some_iff.1 ho).1
    simp [hi] at hl
  · intro i _ hi
    simp [hi]
  · intro i d hi hl
    have : i < ops.size := by omega
    simp [this] at hl

/-- The world has grown: what was there is as it was. -/
def Ext (w w' : World) : Prop := Below w.heap.size w w'
theorem Ext.refl (w : World) : Ext w w := Below.refl _ _
theorem Ext.trans {w w' w'' : World} (h : Ext w w') (k : Ext w' w'') : Ext w w'' :=
  Below.trans h (Below.mono k h.size)
theorem Ext.drew (w : World) : Ext w w.drew := (Below.refl _ _).drew
theorem Ext.alloc (w : World) (o : Obj) : Ext w (w.alloc o) := (Below.refl _ _).alloc (Nat.le_refl _) o
theorem Ext.cell {w w' : World} (h : Ext w w') {a : Addr} {v : Value} (hc : w.cell? a = some v) : w'.cell? a = some v :=
  (Below.cell h (World.block_lt_of_cell? w a hc)).trans hc
theorem Ext.heap {w w' : World} (h : Ext w w') {b : Nat} {o : Obj} (hc : w.heap[b]? = some o) : w'.heap[b]? = some o := by
  have hlt : b < w.heap.size := by
    rcases Nat.lt_or_ge b w.heap.size with h' | h'
    · exact h'
    · rw [Array.getElem?_eq_none h'] at hc; cases hc
  exact (h.block b hlt).trans hc

/-- What is asked of an operation: whatever came ahead of it besides what it waits for. -/
def Hop (P : Program) (ops : Array Oper) (n : Nat) (a0 : Act) (w0 : World) (S : Nat → Value → World → Prop) (Q : Exit → Act → World → Prop) (i : Nat) (o : Oper) : Prop :=
  ∀ (a : Act) (w : World), Ext w0 w → a.defers = a0.defers → (∀ t, freeSlot ops n t = true → a.eval (.tmp t) = a0.eval (.tmp t)) →
    (∀ j d, (needs ops ops.size i).contains j = true → dstAt ops j = some d → S j (a.eval (.tmp d)) w) →
    ∀ K : Act → World → Prop, (∀ v w', Ext w w' → S i v w' → K (a.put o.dst v) w') →
      match o.guard with
      | none => o.wp P a w K Q
      | some (j, want) => if yielded ops a.tmps j = some want then o.wp P a w K Q else K (a.put o.dst undef) w
def Hops (P : Program) (ops : Array Oper) (n : Nat) (a0 : Act) (w0 : World) (S : Nat → Value → World → Prop) (Q : Exit → Act → World → Prop) : List Oper → Nat → Prop
  | [], _ => True
  | o :: r, i => Hop P ops n a0 w0 S Q i o ∧ Hops P ops n a0 w0 S Q r (i + 1)
theorem hops_at {n : Nat} {a0 : Act} {w0 : World} {S : Nat → Value → World → Prop} {Q : Exit → Act → World → Prop} : ∀ (l : List Oper) (k i : Nat) (o : Oper), Hops P ops n a0 w0 S Q l k → l[i]? = some o → Hop P ops n a0 w0 S Q (k + i) o
  | [], _, i, o, _, hi => by simp at hi
  | x :: l, k, 0, o, h, hi => by simp at hi; subst hi; exact h.1
  | x :: l, k, i + 1, o, h, hi => by
    have := hops_at l (k + 1) i o h.2 (by simpa using hi)
    rw [show k + (i + 1) = k + 1 + i from by omega]
    exact this
theorem wp_region_ext {Q : Exit → Act → World → Prop} {id : Nat} {a0 : Act} {w0 : World} (hm : P.follows .mixedOrders = true) (n : Nat) (S : Nat → Value → World → Prop) (hok : regOk ops n = true)
    (hslots : ((List.range n).all fun i => (dstAt ops i).all fun d => decide (d < a0.tmps.size)) = true)
    (hS : ∀ i v w w', Ext w w' → S i v w → S i v w') (hop : Hops P ops n a0 w0 S Q (ops.toList.take n) 0)
    (hQ : ∀ (vs : Nat → Value) (w : World), Ext w0 w → (∀ i, i < n → (dstAt ops i).isSome = true → S i (vs i) w) → wpList P ops Q (ops.toList.drop n) (putN ops vs n a0) w) :
    (Code.region id ops true).wp P Q a0 w0 := by
  refine wp_region_mono hm n hok hslots Ext Ext.refl (fun _ _ _ => Ext.trans) S hS (fun i hi o ho a w hle hd hf hs K hK => ?_) (fun vs w hle => hQ vs w ((Ext.drew _).trans hle))
  have h := hops_at _ 0 i o hop (by rw [List.getElem?_take, if_pos hi]; simpa using ho)
  rw [Nat.zero_add] at h
  have h := h a w ((Ext.drew _).trans hle) hd hf hs K hK
  cases hg : o.guard with
  | none =>
    rw [hg] at h
    rw [if_pos (by simp [Region.wanted, hg])]
    exact h
  | some jw =>
    obtain ⟨j, want⟩ := jw
    rw [hg] at h
    simp only at h
    split
    · rename_i hw
      rw [if_pos (by simpa [Region.wanted, hg] using hw)] at h
      exact h
    · rename_i hw
      rw [if_neg (by simpa [Region.wanted, hg] using hw)] at h
      exact h
end

end Go.Proofs.YtckcadhjpjjmjaaDoor
