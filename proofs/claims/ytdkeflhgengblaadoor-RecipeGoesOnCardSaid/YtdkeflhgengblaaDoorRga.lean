/- Texts of one proof, one behind the other: Rep, Row, RepB, Agg, Fld, ShaL, Wd1, Sl, Reg, Fld2, Reg2, Reg3, Arr. No condition. -/
import Derived.WalkKit
import Derived.WalkSpells
import Derived.WalkLawsBesides
import Derived.Deep.MidRow
import Derived.Deep.AppendLies
import Derived.Deep.Draws
import Derived.ProofKit
import Derived.OpenShut
import Derived.JoinedCond
import Derived.Deep.Slices
import Derived.Deep.Fields
import Derived.ChangeSame
import Derived.Carry
import Derived.Lib.ConvBytes
import Derived.Lib.AppendStr
import Derived.Laws.BytesArg
import Derived.Test.YtdkeflhgengblaaDoorProg
import Derived.Below
import Derived.Laws.BitsAllLaws
import Derived.Orders
import Derived.Tactics
import Derived.Laws.CopyOwn
namespace Go.Proofs.YtdkeflhgengblaaDoor
open Go.RowKit

theorem hide {p : Prop} (h : p) : Hid p := h

/-- A byte as a cell. -/
abbrev bv (x : UInt8) : Value := .int .u8 (x.toNat : Int)

/-- How data of one type lie in cells; 'ok': the blocks on which this hangs. -/
structure Kd (α : Type) where
  sz : Nat
  K : (Nat → Prop) → World → α → List Value → Prop
  len : ∀ {ok w x cs}, K ok w x cs → cs.length = sz
  one : ∀ {ok w x cs}, K ok w x cs → ∀ u ∈ cs, u.oneCell' = true
  keep : ∀ {ok : Nat → Prop} {w w' : World} {x cs}, (∀ k, ok k → w'.heap[k]? = w.heap[k]?) → K ok w x cs → K ok w' x cs
  more : ∀ {ok ok' : Nat → Prop} {w x cs}, (∀ k, ok k → ok' k) → K ok w x cs → K ok' w x cs
  bound : ∀ {ok : Nat → Prop} {w : World} {x cs}, K ok w x cs → K (fun k => ok k ∧ k < w.heap.size) w x cs

theorem rangeAt_of_heap {w w' : World} {b o : Nat} {cs : List Value} (h : w.rangeAt b o cs) (hb : w'.heap[b]? = w.heap[b]?) : w'.rangeAt b o cs :=
  fun j v hv => (World.cell?_of_block (a := ⟨b, o + j, none⟩) hb).trans (h j v hv)
theorem new_ne (w : World) {b o : Nat} {u : Value} (h : w.cell? ⟨b, o, none⟩ = some u) : w.heap.size ≠ b := Nat.ne_of_gt (World.block_lt_of_cell? w _ h)
theorem rangeAt_lt {w : World} {b o : Nat} {cs : List Value} (h : w.rangeAt b o cs) (hn : 0 < cs.length) : b < w.heap.size :=
  World.block_lt_of_cell? w _ (h 0 _ (List.getElem?_eq_getElem hn))

namespace Kd
variable {α β : Type}

/-- The cells of a row of elements. -/
def Cells (d : Kd α) (ok : Nat → Prop) (w : World) (b o : Nat) (xs : List α) : Prop :=
  ∀ i x, xs[i]? = some x → ∃ cs, d.K ok w x cs ∧ w.rangeAt b (o + i * d.sz) cs
/-- A slice that reads as a list, nil let in. -/
def Row (d : Kd α) (ok : Nat → Prop) (w : World) (A : Option Addr) (n c : Nat) (xs : List α) : Prop :=
  xs.length = n ∧ n ≤ c ∧ c ≤ maxLen ∧ (0 < n → ∃ b o, A = some ⟨b, o, none⟩ ∧ ok b ∧ b < w.heap.size ∧ d.Cells ok w b o xs)

section
variable {d : Kd α} {ok ok' : Nat → Prop} {w w' : World} {A : Option Addr} {n c : Nat} {xs : List α}
theorem Cells.keep {b o : Nat} (h : d.Cells ok w b o xs) (hb : w'.heap[b]? = w.heap[b]?) (hk : ∀ k, ok k → w'.heap[k]? = w.heap[k]?) : d.Cells ok w' b o xs :=
  fun i x hx => let ⟨cs, h1, h2⟩ := h i x hx; ⟨cs, d.keep hk h1, rangeAt_of_heap h2 hb⟩
theorem Row.keep (h : d.Row ok w A n c xs) (hk : ∀ k, ok k → k < w.heap.size → w'.heap[k]? = w.heap[k]?) : d.Row ok w' A n c xs := by
  refine ⟨h.1, h.2.1, h.2.2.1, fun hn => ?_⟩
  obtain ⟨b, o, e, hb, hlt, hc⟩ := h.2.2.2 hn
  have hb' := hk b hb hlt
  refine ⟨b, o, e, hb, ?_, fun i x hx => ?_⟩
  · rcases Nat.lt_or_ge b w'.heap.size with h' | h'
    · exact h'
    · rw [Array.getElem?_eq_none h', Array.getElem?_eq_getElem hlt] at hb'
      cases hb'
  · obtain ⟨cs, h1, h2⟩ := hc i x hx
    exact ⟨cs, d.more (fun k hk => hk.1) (d.keep (fun k hk' => hk k hk'.1 hk'.2) (d.bound h1)), rangeAt_of_heap h2 hb'⟩
theorem Row.more (h : d.Row ok w A n c xs) (hk : ∀ k, ok k → ok' k) : d.Row ok' w A n c xs :=
  ⟨h.1, h.2.1, h.2.2.1, fun hn => let ⟨b, o, e, hb, hlt, hc⟩ := h.2.2.2 hn; ⟨b, o, e, hk b hb, hlt, fun i x hx => let ⟨cs, h1, h2⟩ := hc i x hx; ⟨cs, d.more hk h1, h2⟩⟩⟩
theorem Row.bound (h : d.Row ok w A n c xs) : d.Row (fun k => ok k ∧ k < w.heap.size) w A n c xs :=
  ⟨h.1, h.2.1, h.2.2.1, fun hn => let ⟨b, o, e, hb, hlt, hc⟩ := h.2.2.2 hn; ⟨b, o, e, ⟨hb, hlt⟩, hlt, fun i x hx => let ⟨cs, h1, h2⟩ := hc i x hx; ⟨cs, d.bound h1, h2⟩⟩⟩
theorem Row.below (h : d.Row ok w A n c xs) (hb : Below w.heap.size w w') : d.Row ok w' A n c xs := h.keep fun k _ hk => hb.block k hk
theorem Row.belowB {B : Nat} (h : d.Row (· < B) w A n c xs) (hb : Below B w w') : d.Row (· < B) w' A n c xs := h.keep fun k hk _ => hb.block k hk
theorem Row.nil (d : Kd α) (ok : Nat → Prop) (w : World) (A : Option Addr) (c : Nat) (hc : c ≤ maxLen) : d.Row ok w A 0 c [] := ⟨rfl, Nat.zero_le _, hc, fun h => absurd h (by omega)⟩
theorem Row.drewN (h : d.Row ok w A n c xs) (k : Nat) : d.Row ok (w.drewN k) A n c xs := h.keep fun _ _ _ => rfl
theorem Row.alloc (h : d.Row ok w A n c xs) (o : Obj) : d.Row ok (w.alloc o) A n c xs := h.keep fun k _ hk => Below.heap_alloc w o k hk

theorem Row.clip (h : d.Row ok w A n c xs) : d.Row ok w A n n xs := ⟨h.1, Nat.le_refl _, Nat.le_trans h.2.1 h.2.2.1, h.2.2.2⟩
theorem Row.take (h : d.Row ok w A n c xs) {k : Nat} (hk : k ≤ n) : d.Row ok w A k c (xs.take k) :=
  ⟨by rw [List.length_take, h.1]; omega, Nat.le_trans hk h.2.1, h.2.2.1, fun hn => by
    obtain ⟨b, o, e, hb, hlt, hc⟩ := h.2.2.2 (by omega)
    exact ⟨b, o, e, hb, hlt, fun i x hx => hc i x (by rw [List.getElem?_take] at hx; split at hx <;> simp_all)⟩⟩
theorem Row.drop (h : d.Row ok w A n c xs) {k : Nat} (hk : k ≤ n) : d.Row ok w (if c = k then A else A.map (·.add (k * d.sz))) (n - k) (c - k) (xs.drop k) :=
  ⟨by rw [List.length_drop, h.1], by have := h.2.1; omega, by have := h.2.2.1; omega, fun hn => by
    obtain ⟨b, o, rfl, hb, hlt, hc⟩ := h.2.2.2 (by omega)
    rw [if_neg (by have := h.2.1; omega)]
    refine ⟨b, o + k * d.sz, by simp [Addr.add_mid], hb, hlt, fun i x hx => ?_⟩
    rw [List.getElem?_drop] at hx
    obtain ⟨cs, h1, h2⟩ := hc (k + i) x hx
    refine ⟨cs, h1, ?_⟩
    rw [Nat.add_mul, ← Nat.add_assoc] at h2
    exact h2⟩

/-- x[i]: where it lies, in whatever world the address is reckoned. -/
theorem Row.index {P : Program} {T E : TypeId} (h : d.Row ok w A n c xs) (hT : P.underlying T = some (.slice E)) (hE : (P.info? E).map (·.size) = some d.sz) {i : Nat} {x : α} (hx : xs[i]? = some x) :
    ∃ b o cs, (∀ wx : World, (Instr.indexAt T (.slice A n c) (.int .i64 (i : Int))).run P wx = .ok (.pointer (some ⟨b, o, none⟩)) wx) ∧ ok b ∧ b < w.heap.size ∧ d.K ok w x cs ∧ w.rangeAt b o cs := by
  have hi : i < xs.length := (List.getElem?_eq_some_iff.1 hx).1
  have hn : 0 < n := by have := h.1; omega
  obtain ⟨b, o, e, hb, hlt, hc⟩ := h.2.2.2 hn
  subst e
  obtain ⟨cs, h1, h2⟩ := hc i x hx
  refine ⟨b, o + i * d.sz, cs, fun wx => ?_, hb, hlt, h1, h2⟩
  have hin : i < n := by have := h.1; omega
  cases hq : P.info? E with
  | none => simp [hq] at hE
  | some inf =>
    have hs : inf.size = d.sz := by simpa [hq] using hE
    simp [Instr.indexAt, asIntOf, run_underlying hT, sizeOf, typeInfo, hq, hs, hin, Addr.add]
end

/-- One cell. -/
def cell {α : Type} (enc : α → Value) (h1 : ∀ x, (enc x).oneCell' = true) (good : α → Prop) : Kd α where
  sz := 1
  K _ _ x cs := cs = [enc x] ∧ good x
  len h := by rw [h.1]; rfl
  one h u hu := by rw [h.1] at hu; simp at hu; subst hu; exact h1 _
  keep _ h := h
  more _ h := h
  bound h := h
end Kd

def kU8 : Kd UInt8 := Kd.cell bv (fun _ => rfl) (fun _ => True)
def kStr : Kd ByteArray := Kd.cell Value.string (fun _ => rfl) (fun s => s.size ≤ maxLen)
def kInt : Kd Int := Kd.cell (Value.int .i64) (fun _ => rfl) (fun n => -9223372036854775808 ≤ n ∧ n < 9223372036854775808)
def kBool : Kd Bool := Kd.cell Value.bool (fun _ => rfl) (fun _ => True)

/-- Elements and their cells. -/
def Kd.Els {α : Type} (d : Kd α) (ok : Nat → Prop) (w : World) (xs : List α) (css : List (List Value)) : Prop :=
  css.length = xs.length ∧ ∀ (i : Nat) (x : α) (cs : List Value), xs[i]? = some x → css[i]? = some cs → d.K ok w x cs
/-- A row of the call's own (from block 'base' on): it may be appended to. -/
def Kd.Own {α : Type} (d : Kd α) (ok : Nat → Prop) (base : Nat) (w : World) (E : TypeId) (v : Value) (xs : List α) : Prop :=
  ∃ css : List (List Value), d.Els (fun k => ok k ∧ some k ≠ v.ownBlock) w xs css ∧ w.ownsRow base E d.sz v xs.length css.flatten
/-- A row to which may be appended: the call's own, or one without room. -/
def Kd.App {α : Type} (d : Kd α) (ok : Nat → Prop) (base : Nat) (w : World) (E : TypeId) (v : Value) (xs : List α) : Prop :=
  d.Own ok base w E v xs ∨ ∃ A, v = .slice A xs.length xs.length ∧ d.Row (fun k => ok k ∧ k < base) w A xs.length xs.length xs
/-- What is appended. -/
def Kd.Src {α : Type} (d : Kd α) (ok : Nat → Prop) (w : World) (A : Option Addr) (m : Nat) (ys : List α) : Prop :=
  ys.length = m ∧ ∃ css : List (List Value), d.Els ok w ys css ∧ (0 < m → ∃ b o, A = some ⟨b, o, none⟩ ∧ w.rangeAt b o css.flatten)

theorem Kd.Els.lens {α : Type} {d : Kd α} {ok : Nat → Prop} {w : World} {xs : List α} {css : List (List Value)} (h : d.Els ok w xs css) : ∀ cs ∈ css, cs.length = d.sz := by
  intro cs hcs
  obtain ⟨i, hi, rfl⟩ := List.mem_iff_getElem.1 hcs
  have hx : i < xs.length := by rw [← h.1]; exact hi
  exact d.len (h.2 i _ _ (List.getElem?_eq_getElem hx) (List.getElem?_eq_getElem hi))
theorem flat_len {css : List (List Value)} {s : Nat} (h : ∀ cs ∈ css, cs.length = s) : css.flatten.length = css.length * s := by
  induction css with
  | nil => simp
  | cons c r ih =>
    have h1 := h c (by simp)
    have h2 := ih (fun x hx => h x (by simp [hx]))
    simp only [List.flatten_cons, List.length_append, List.length_cons, h1, h2, Nat.add_mul]
    omega
theorem flat_at {css : List (List Value)} {s : Nat} (h : ∀ cs ∈ css, cs.length = s) {i j : Nat} {cs : List Value} {v : Value} (hi : css[i]? = some cs) (hj : cs[j]? = some v) : css.flatten[i * s + j]? = some v := by
  induction css generalizing i with
  | nil => simp at hi
  | cons c r ih =>
    have h1 := h c (by simp)
    have hj' : j < cs.length := (List.getElem?_eq_some_iff.1 hj).1
    cases i with
    | zero =>
      simp at hi
      subst hi
      simp only [List.flatten_cons, Nat.zero_mul, Nat.zero_add]
      rw [List.getElem?_append_left hj']
      exact hj
    | succ i =>
      simp at hi
      have h2 := ih (fun x hx => h x (by simp [hx])) hi
      simp only [List.flatten_cons]
      rw [List.getElem?_append_right (by rw [h1, Nat.add_mul]; omega), h1]
      rw [show (i + 1) * s + j - s = i * s + j from by rw [Nat.add_mul]; omega]
      exact h2

section
variable {α : Type} {d : Kd α} {ok ok' : Nat → Prop} {base : Nat} {w w' : World} {E : TypeId} {v : Value} {xs ys : List α} {A : Option Addr} {n m c : Nat}
theorem Kd.Els.one {css : List (List Value)} (h : d.Els ok w xs css) : ∀ u ∈ css.flatten, u.oneCell' = true := by
  intro u hu
  obtain ⟨cs, hcs, hu⟩ := List.mem_flatten.1 hu
  obtain ⟨i, hi, rfl⟩ := List.mem_iff_getElem.1 hcs
  have hx : i < xs.length := by rw [← h.1]; exact hi
  exact d.one (h.2 i _ _ (List.getElem?_eq_getElem hx) (List.getElem?_eq_getElem hi)) u hu
theorem Kd.Els.more {css : List (List Value)} (h : d.Els ok w xs css) (hk : ∀ k, ok k → ok' k) : d.Els ok' w xs css := ⟨h.1, fun i x cs hx hc => d.more hk (h.2 i x cs hx hc)⟩
theorem Kd.Els.bound {css : List (List Value)} (h : d.Els ok w xs css) : d.Els (fun k => ok k ∧ k < w.heap.size) w xs css := ⟨h.1, fun i x cs hx hc => d.bound (h.2 i x cs hx hc)⟩
theorem Kd.Els.keep {css : List (List Value)} (h : d.Els ok w xs css) (hk : ∀ k, ok k → k < w.heap.size → w'.heap[k]? = w.heap[k]?) : d.Els ok w' xs css :=
  ⟨h.1, fun i x cs hx hc => d.more (fun _k hk => hk.1) (d.keep (fun k hk' => hk k hk'.1 hk'.2) (d.bound (h.2 i x cs hx hc)))⟩
theorem Kd.Els.append {css dss : List (List Value)} (h : d.Els ok w xs css) (k : d.Els ok w ys dss) : d.Els ok w (xs ++ ys) (css ++ dss) := by
  refine ⟨by simp [h.1, k.1], fun i x cs hx hc => ?_⟩
  rcases Nat.lt_or_ge i xs.length with hi | hi
  · rw [List.getElem?_append_left hi] at hx
    rw [List.getElem?_append_left (by rw [h.1]; exact hi)] at hc
    exact h.2 i x cs hx hc
  · rw [List.getElem?_append_right hi] at hx
    rw [List.getElem?_append_right (by rw [h.1]; exact hi), h.1] at hc
    exact k.2 _ x cs hx hc
theorem Kd.Els.nil (d : Kd α) (ok : Nat → Prop) (w : World) : d.Els ok w [] [] := ⟨rfl, fun i x cs hx => by simp at hx⟩
theorem Kd.Els.single {x : α} {cs : List Value} (h : d.K ok w x cs) : d.Els ok w [x] [cs] := ⟨rfl, fun i y ds hy hd => by
  match i, hy, hd with
  | 0, hy, hd => simp at hy hd; subst hy; subst hd; exact h
  | i + 1, hy, hd => simp at hy⟩

theorem Kd.Own.nil (d : Kd α) (ok : Nat → Prop) (base : Nat) (w : World) (E : TypeId) : d.Own ok base w E (.slice none 0 0) [] := ⟨[], .nil _ _ _, World.ownsRow_nil w base E d.sz⟩
theorem Kd.Own.form (h : d.Own ok base w E v xs) : ∃ A c, v = .slice A xs.length c := by
  obtain ⟨css, _, ho⟩ := h
  rcases ho.2 with ⟨rfl, h0⟩ | ⟨g, cap, cur, rfl, _⟩
  · rw [h0]; exact ⟨_, _, rfl⟩
  · exact ⟨_, _, rfl⟩
theorem Kd.Own.base_le (h : d.Own ok base w E v xs) : ∀ k, v.ownBlock = some k → base ≤ k ∧ k < w.heap.size := by
  obtain ⟨css, _, ho⟩ := h
  exact ho.lt
theorem Kd.Own.keep (h : d.Own ok base w E v xs) (hk : ∀ k, k < w.heap.size → (ok k ∨ some k = v.ownBlock) → w'.heap[k]? = w.heap[k]?) : d.Own ok base w' E v xs := by
  obtain ⟨css, he, ho⟩ := h
  refine ⟨css, he.keep (fun k h1 h2 => hk k h2 (.inl h1.1)), ho.1, ?_⟩
  rcases ho.2 with hn | ⟨g, cap, cur, rfl, hb, hg, r⟩
  · exact .inl hn
  · exact .inr ⟨g, cap, cur, rfl, hb, (hk g (Array.getElem?_eq_some_iff.1 hg).1 (.inr rfl)).trans hg, r⟩
theorem Kd.Own.below (h : d.Own ok base w E v xs) (hb : Below w.heap.size w w') : d.Own ok base w' E v xs := h.keep fun k hk _ => hb.block k hk
theorem Kd.Own.more (h : d.Own ok base w E v xs) (hk : ∀ k, ok k → ok' k) : d.Own ok' base w E v xs :=
  let ⟨css, he, ho⟩ := h; ⟨css, he.more fun k h1 => ⟨hk k h1.1, h1.2⟩, ho⟩
theorem Kd.Own.lower {base' : Nat} (h : d.Own ok base w E v xs) (hb : base' ≤ base) : d.Own ok base' w E v xs := by
  obtain ⟨css, he, ho⟩ := h
  refine ⟨css, he, ho.1, ?_⟩
  rcases ho.2 with hn | ⟨g, cap, cur, rfl, hg, r⟩
  · exact .inl hn
  · exact .inr ⟨g, cap, cur, rfl, Nat.le_trans hb hg, r⟩
/-- What is owned can be read. -/
theorem Kd.Own.row (h : d.Own ok base w E v xs) : ∃ A c, v = .slice A xs.length c ∧ d.Row (fun k => ok k ∨ some k = v.ownBlock) w A xs.length c xs := by
  obtain ⟨css, he, ho⟩ := h
  rcases ho.2 with ⟨rfl, h0⟩ | ⟨g, cap, cur, rfl, hb, hg, hnc, hcm, hcs, htake⟩
  · have hx : xs = [] := List.eq_nil_of_length_eq_zero h0
    subst hx
    exact ⟨none, 0, rfl, Kd.Row.nil _ _ _ _ _ (Nat.zero_le _)⟩
  · refine ⟨_, cap, rfl, rfl, hnc, hcm, fun hn => ⟨g, 0, rfl, .inr rfl, (Array.getElem?_eq_some_iff.1 hg).1, fun i x hx => ?_⟩⟩
    have hi : i < xs.length := (List.getElem?_eq_some_iff.1 hx).1
    have hc : css[i]? = some (css[i]'(by rw [he.1]; exact hi)) := List.getElem?_eq_getElem _
    have hK := he.2 i x _ hx hc
    refine ⟨_, d.more (fun k hk => .inl hk.1) hK, fun j u hu => ?_⟩
    have hf := flat_at he.lens hc hu
    have := ho.cells (g := g) rfl (i * d.sz + j) u hf
    simpa [Addr.add_lit] using this
theorem Kd.Row.src (h : d.Row ok w A n c xs) : d.Src ok w A n xs := by
  classical
  rcases Nat.eq_zero_or_pos n with h0 | h0
  · have hx : xs = [] := List.eq_nil_of_length_eq_zero (by rw [h.1]; exact h0)
    subst hx
    exact ⟨h.1, [], .nil _ _ _, fun hh => absurd hh (by omega)⟩
  · obtain ⟨b, o, e, hb, hlt, hc⟩ := h.2.2.2 h0
    have hex : ∀ i : Fin xs.length, ∃ cs, d.K ok w xs[i] cs ∧ w.rangeAt b (o + i * d.sz) cs := fun i => hc i _ (List.getElem?_eq_getElem i.2)
    refine ⟨h.1, List.ofFn (fun i => (hex i).choose), ?_, fun _ => ⟨b, o, e, ?_⟩⟩
    · refine ⟨by simp, fun i x cs hx hcs => ?_⟩
      have hi : i < xs.length := (List.getElem?_eq_some_iff.1 hx).1
      have hs := (hex ⟨i, hi⟩).choose_spec.1
      rw [List.getElem?_ofFn] at hcs
      simp only [hi, dite_true, Option.some.injEq] at hcs
      rw [← hcs]
      have : xs[i] = x := by have := List.getElem?_eq_getElem hi; rw [hx] at this; exact (Option.some.inj this).symm
      simpa [this] using hs
    · have hl : ∀ cs ∈ List.ofFn (fun i => (hex i).choose), cs.length = d.sz := by
        intro cs hcs
        obtain ⟨i, rfl⟩ := List.mem_ofFn.1 hcs
        exact d.len (hex i).choose_spec.1
      intro j u hu
      have hj : j < xs.length * d.sz := by
        have := (List.getElem?_eq_some_iff.1 hu).1
        rwa [flat_len hl, List.length_ofFn] at this
      have hs : 0 < d.sz := Nat.pos_of_ne_zero (fun e => by rw [e] at hj; omega)
      have hi : j / d.sz < xs.length := (Nat.div_lt_iff_lt_mul hs).2 hj
      have hsp := (hex ⟨j / d.sz, hi⟩).choose_spec
      have hm : j % d.sz < ((hex ⟨j / d.sz, hi⟩).choose).length := by rw [d.len hsp.1]; exact Nat.mod_lt _ hs
      have hcs : (List.ofFn (fun i => (hex i).choose))[j / d.sz]? = some (hex ⟨j / d.sz, hi⟩).choose := by
        rw [List.getElem?_ofFn]; simp [hi]
      have hf := flat_at hl hcs (List.getElem?_eq_getElem hm)
      have hjj : j / d.sz * d.sz + j % d.sz = j := Nat.div_add_mod' j d.sz
      rw [hjj] at hf
      rw [hf] at hu
      have := hsp.2 (j % d.sz) _ (List.getElem?_eq_getElem hm)
      simp only at this
      rw [Nat.add_assoc, hjj] at this
      rw [this, ← hu]
theorem Kd.Src.more (h : d.Src ok w A m ys) (hk : ∀ k, ok k → ok' k) : d.Src ok' w A m ys := let ⟨h1, css, he, hc⟩ := h; ⟨h1, css, he.more hk, hc⟩
theorem Kd.Src.keep (h : d.Src ok w A m ys) (hk : ∀ k, k < w.heap.size → w'.heap[k]? = w.heap[k]?) : d.Src ok w' A m ys := by
  obtain ⟨h1, css, he, hc⟩ := h
  refine ⟨h1, css, he.keep (fun k _ h2 => hk k h2), fun hm => ?_⟩
  obtain ⟨b, o, e, hr⟩ := hc hm
  exact ⟨b, o, e, fun j v hv => (World.cell?_of_block (a := ⟨b, o + j, none⟩) (hk b (World.block_lt_of_cell? w _ (hr j v hv)))).trans (hr j v hv)⟩

/-- append: onto a row without room. -/
theorem Kd.Row.append {P : Program} {T ty : TypeId} {z : Value} {bytes : Nat} (hT : P.underlying T = some (.slice E)) (hinfo : (P.info? E).map (fun i => (i.zero, i.size, i.bytes)) = some (some z, d.sz, bytes))
    (hz : z.cells.size = d.sz) (hsz : 0 < d.sz) (hrow : d.Row ok w A n n xs) {B : Option Addr} (hs : d.Src ok w B m ys) (cy : Nat) (h0 : 0 < m)
    (h63 : n + m ≤ maxLen) (hbytes : (n + m) * bytes ≤ 140737488355328) :
    ∃ v' w', (Builtin.append_ #[T, T] ty #[.slice A n n, .slice B m cy]).run P w = .ok v' w' ∧ d.Own ok w.heap.size w' E v' (xs ++ ys) ∧ Below w.heap.size w w' := by
  obtain ⟨i0, hi, hzz⟩ := Option.map_eq_some_iff.1 hinfo
  simp only [Prod.mk.injEq] at hzz
  obtain ⟨hz0, hz1, hz2⟩ := hzz
  have hn := hrow.1
  subst hn
  obtain ⟨hm, dss, hd, hcell⟩ := hs
  have hdl := flat_len hd.lens
  rw [hd.1, hm] at hdl
  obtain ⟨b, o, rfl, hr⟩ := hcell h0
  have hnews : ∀ j u, dss.flatten[j]? = some u → w.cell? ((⟨b, o, none⟩ : Addr).add j) = some u := fun j u hu => by
    have := hr j u hu
    rwa [Addr.add_mid]
  have h1 := hd.one
  have hne : xs.length + m = (xs ++ ys).length := by simp [hm]
  obtain ⟨_, css, hc, hcl⟩ := hrow.src
  have hcl0 := flat_len hc.lens
  rw [hc.1] at hcl0
  have hold : ∀ (A0 : Addr), A = some A0 → ∀ j u, css.flatten[j]? = some u → w.cell? (A0.add j) = some u := by
    intro A0 hA j u hu
    have hpos : 0 < xs.length := by
      rcases Nat.eq_zero_or_pos xs.length with h' | h'
      · have := (List.getElem?_eq_some_iff.1 hu).1; rw [hcl0, h'] at this; omega
      · exact h'
    obtain ⟨b', o', e, hr'⟩ := hcl hpos
    rw [hA] at e
    have e := Option.some.inj e
    subst e
    rw [Addr.add_mid]; exact hr' j u hu
  have done : ∃ v' w', (Builtin.append_ #[T, T] ty #[.slice A xs.length xs.length, .slice (some ⟨b, o, none⟩) m cy]).run P w = .ok v' w' ∧ w'.ownsRow w.heap.size E d.sz v' (xs.length + m) (css.flatten ++ dss.flatten) ∧ w.grownBy w' none := by
    cases A with
    | none =>
      have h0' : xs.length = 0 := by
        rcases Nat.eq_zero_or_pos xs.length with h' | h'
        · exact h'
        · obtain ⟨b', o', e, _⟩ := hcl h'; cases e
      have hx : xs = [] := List.eq_nil_of_length_eq_zero h0'
      subst hx
      have hcn : css.flatten = [] := List.eq_nil_of_length_eq_zero (by rw [hcl0]; simp)
      rw [hcn]
      obtain ⟨v', w', hrun, h2, h3, _, _⟩ := run_append_own_at (P := P) w w.heap.size T ty E i0 z d.sz bytes hT hi hz0 hz1 hz2 hz hsz (.slice none 0 0) 0 [] (World.ownsRow_nil w _ E d.sz) ⟨b, o, none⟩ m cy dss.flatten hdl hnews h1 (by simpa using h63) (by simpa using hbytes) (Nat.le_refl _)
      exact ⟨v', w', hrun, h2, h3⟩
    | some A0 =>
      exact run_append_arg_grows (P := P) w T ty E i0 z d.sz bytes hT hi hz0 hz1 hz2 hz hsz A0 xs.length xs.length css.flatten hcl0 (hold A0 rfl) ⟨b, o, none⟩ m cy dss.flatten hdl hnews (by omega) h63 hbytes
  obtain ⟨v', w', hrun, ho, hg⟩ := done
  have hblk : ∀ k, k < w.heap.size → w'.heap[k]? = w.heap[k]? := fun k hk => hg.block k hk (by simp)
  have hv' : ∀ k, v'.ownBlock = some k → w.heap.size ≤ k := fun k hk => (ho.lt k hk).1
  refine ⟨v', w', hrun, ⟨css ++ dss, ?_, by rw [← hne, List.flatten_append]; exact ho⟩, ⟨hg.os, hg.tape, hg.output, hg.size, hblk⟩⟩
  have h2 : d.Els (fun k => (ok k ∧ some k ≠ v'.ownBlock) ∧ k < w.heap.size) w (xs ++ ys) (css ++ dss) :=
    (hc.append hd).bound.more (fun k hk => ⟨⟨hk.1, fun e => by have := hv' k e.symm; omega⟩, hk.2⟩)
  exact (h2.keep (fun k h3 _ => hblk k h3.2)).more (fun k hk => hk.1)

/-- append: onto what may be appended to. -/
theorem Kd.App.append {P : Program} {T ty : TypeId} {z : Value} {bytes : Nat} (hT : P.underlying T = some (.slice E)) (hinfo : (P.info? E).map (fun i => (i.zero, i.size, i.bytes)) = some (some z, d.sz, bytes))
    (hz : z.cells.size = d.sz) (hsz : 0 < d.sz) (h : d.App ok base w E v xs) (hs : d.Src (fun k => ok k ∧ some k ≠ v.ownBlock) w A m ys) (hbase : base ≤ w.heap.size) (cy : Nat)
    (h63 : xs.length + m ≤ maxLen) (hbytes : (xs.length + m) * bytes ≤ 140737488355328) :
    ∃ v' w', (Builtin.append_ #[T, T] ty #[v, .slice A m cy]).run P w = .ok v' w' ∧ d.App ok base w' E v' (xs ++ ys) ∧ (0 < m ∨ d.Own ok base w E v xs → d.Own ok base w' E v' (xs ++ ys)) ∧ Below base w w' ∧
      (∀ k, k < w.heap.size → some k ≠ v.ownBlock → w'.heap[k]? = w.heap[k]?) ∧ (v'.ownBlock = v.ownBlock ∨ ∃ k, v'.ownBlock = some k ∧ w.heap.size ≤ k) := by
  rcases Nat.eq_zero_or_pos m with h0 | h0
  · obtain ⟨i0, hi, hzz⟩ := Option.map_eq_some_iff.1 hinfo
    subst h0
    have hy : ys = [] := List.eq_nil_of_length_eq_zero hs.1
    subst hy
    refine ⟨v, w, ?_, by simpa using h, fun hh => (by simpa using hh.resolve_left (by omega)), Below.refl _ _, fun _ _ _ => rfl, .inl rfl⟩
    have hf : ∃ Av nv cv, v = .slice Av nv cv ∧ nv ≤ cv := by
      rcases h with ⟨css, _, ho⟩ | ⟨Av, rfl, hr⟩
      · rcases ho.2 with ⟨rfl, h0⟩ | ⟨g, cap, cur, rfl, _, _, hnc, _⟩
        · exact ⟨_, _, _, rfl, Nat.le_refl _⟩
        · exact ⟨_, _, _, rfl, hnc⟩
      · exact ⟨_, _, _, rfl, Nat.le_refl _⟩
    obtain ⟨Av, nv, cv, rfl, hnc⟩ := hf
    cases Av <;> cases A <;> simp [Builtin.append_, run_underlying hT, sizeOf, typeInfo, hi, Builtin.lenOf, Builtin.firstCells, hnc, storeCells, loadCells, loadCellsFrom]
  · rcases h with ⟨css, he, ho⟩ | ⟨Av, rfl, hrow⟩
    · obtain ⟨i0, hi, hzz⟩ := Option.map_eq_some_iff.1 hinfo
      simp only [Prod.mk.injEq] at hzz
      obtain ⟨hz0, hz1, hz2⟩ := hzz
      obtain ⟨hm, dss, hd, hcell⟩ := hs
      have hdl := flat_len hd.lens
      rw [hd.1, hm] at hdl
      obtain ⟨b, o, rfl, hr⟩ := hcell h0
      have hnews : ∀ j u, dss.flatten[j]? = some u → w.cell? ((⟨b, o, none⟩ : Addr).add j) = some u := fun j u hu => by
        have := hr j u hu
        rwa [Addr.add_mid]
      have hne : xs.length + m = (xs ++ ys).length := by simp [hm]
      obtain ⟨v', w', hrun, h2, h3, _, h5⟩ := run_append_own_at (P := P) w base T ty E i0 z d.sz bytes hT hi hz0 hz1 hz2 hz hsz v xs.length css.flatten ho ⟨b, o, none⟩ m cy dss.flatten hdl hnews hd.one h63 hbytes hbase
      have h6 : v'.ownBlock = v.ownBlock ∨ ∃ k, v'.ownBlock = some k ∧ w.heap.size ≤ k := h5.imp id (fun e => ⟨_, e, Nat.le_refl _⟩)
      have hown : d.Own ok base w' E v' (xs ++ ys) := by
        refine ⟨css ++ dss, ?_, by rw [← hne, List.flatten_append]; exact h2⟩
        have h2 := ((he.append hd).bound.more (ok' := fun k => (ok k ∧ some k ≠ v'.ownBlock) ∧ some k ≠ v.ownBlock ∧ k < w.heap.size) (fun k hk => ⟨⟨hk.1.1, ?_⟩, hk.1.2, hk.2⟩))
        · exact (h2.keep (fun k h3' h4 => h3.block k h4 h3'.2.1)).more (fun k hk => hk.1)
        · rcases h6 with e | ⟨k', e, hk'⟩
          · rw [e]; exact hk.1.2
          · rw [e]; intro e2; have := Option.some.inj e2; omega
      exact ⟨v', w', hrun, .inl hown, fun _ => hown, (Below.refl _ _).grown h3 hbase (fun k hk => (ho.lt k hk).1), h3.block, h6⟩
    · obtain ⟨v', w', hrun, hown, hb⟩ := (hrow.more (ok' := ok) (fun k hk => hk.1)).append (P := P) (T := T) (ty := ty) hT hinfo hz hsz (hs.more (ok' := ok) (fun k hk => hk.1)) cy h0 h63 hbytes
      have hown' := hown.lower hbase
      refine ⟨v', w', hrun, .inl hown', fun _ => hown', hb.mono hbase, fun k hk _ => hb.block k hk, ?_⟩
      obtain ⟨A', c', rfl⟩ := hown.form
      have hb' := hown.base_le
      obtain ⟨css, _, ho⟩ := hown
      rcases ho.2 with ⟨_, h0'⟩ | ⟨g, cap, cur, e, hg', hgg, _⟩
      · have := hs.1; rw [List.length_append] at h0'; omega
      · rw [e]; exact .inr ⟨g, rfl, hg'⟩

/-- append, at the operation. -/
theorem wp_app {P : Program} {op : Oper} {a : Act} {K : Act → World → Prop} {Q : Exit → Act → World → Prop} (s x : Operand) (T : TypeId)
    (ho : op.op = .call { callee := .builtin .append, args := #[s, x], argTypes := #[T, T] }) {z : Value} {bytes : Nat} (hT : P.underlying T = some (.slice E)) (hinfo : (P.info? E).map (fun i => (i.zero, i.size, i.bytes)) = some (some z, d.sz, bytes))
    (hz : z.cells.size = d.sz) (hsz : 0 < d.sz) (cy : Nat) (hs : a.eval s = v) (hx : a.eval x = .slice A m cy) (h : d.App ok base w E v xs) (hsrc : d.Src (fun k => ok k ∧ some k ≠ v.ownBlock) w A m ys) (hbase : base ≤ w.heap.size)
    (h63 : xs.length + m ≤ maxLen) (hbytes : (xs.length + m) * bytes ≤ 140737488355328)
    (k : ∀ v' w', d.App ok base w' E v' (xs ++ ys) → (0 < m ∨ d.Own ok base w E v xs → d.Own ok base w' E v' (xs ++ ys)) → Below base w w' → (∀ k, k < w.heap.size → some k ≠ v.ownBlock → w'.heap[k]? = w.heap[k]?) →
      (v'.ownBlock = v.ownBlock ∨ ∃ k, v'.ownBlock = some k ∧ w.heap.size ≤ k) → K (a.put op.dst v') w') : op.wp P a w K Q := by
  obtain ⟨v', w', hrun, h1, h2, h3, h4, h5⟩ := h.append (P := P) (T := T) (ty := op.type) hT hinfo hz hsz hsrc hbase cy h63 hbytes
  unfold Oper.wp execOp
  simp only [ho, resolve, invoke, builtin, Sem.run_bind, Sem.run_pure, Result.andThen_ok, List.map_toArray, List.map_cons, List.map_nil, hs, hx, hrun]
  exact k v' w' h1 h2 h3 h4 h5
/-- append, where the walk stands at it. -/
theorem wpList_app {P : Program} {ops : Array Oper} {rest : List Oper} {op : Oper} {a : Act} {Q : Exit → Act → World → Prop} (hgd : op.guard = none) (s x : Operand) (T : TypeId)
    (ho : op.op = .call { callee := .builtin .append, args := #[s, x], argTypes := #[T, T] }) {z : Value} {bytes : Nat} (hT : P.underlying T = some (.slice E)) (hinfo : (P.info? E).map (fun i => (i.zero, i.size, i.bytes)) = some (some z, d.sz, bytes))
    (hz : z.cells.size = d.sz) (hsz : 0 < d.sz) (cy : Nat) (hs : a.eval s = v) (hx : a.eval x = .slice A m cy) (h : d.App ok base w E v xs) (hsrc : d.Src (fun k => ok k ∧ some k ≠ v.ownBlock) w A m ys) (hbase : base ≤ w.heap.size)
    (h63 : xs.length + m ≤ maxLen) (hbytes : (xs.length + m) * bytes ≤ 140737488355328)
    (k : ∀ v' w', d.App ok base w' E v' (xs ++ ys) → (0 < m ∨ d.Own ok base w E v xs → d.Own ok base w' E v' (xs ++ ys)) → Below base w w' → (∀ k, k < w.heap.size → some k ≠ v.ownBlock → w'.heap[k]? = w.heap[k]?) →
      (v'.ownBlock = v.ownBlock ∨ ∃ k, v'.ownBlock = some k ∧ w.heap.size ≤ k) → wpList P ops Q rest (a.put op.dst v') w') : wpList P ops Q (op :: rest) a w :=
  wpList_plain hgd fun _ hK => wp_app s x T ho hT hinfo hz hsz cy hs hx h hsrc hbase h63 hbytes fun v' w' h1 h2 h3 h4 h5 => hK _ _ (k v' w' h1 h2 h3 h4 h5)
/-- append, in a region that draws its order. -/
theorem step_app {P : Program} {ops : Array Oper} {op : Oper} {a : Act} {K : Act → World → Prop} {Q : Exit → Act → World → Prop} {X : Prop} (hgd : op.guard = none) (s x : Operand) (T : TypeId)
    (ho : op.op = .call { callee := .builtin .append, args := #[s, x], argTypes := #[T, T] }) {z : Value} {bytes : Nat} (hT : P.underlying T = some (.slice E)) (hinfo : (P.info? E).map (fun i => (i.zero, i.size, i.bytes)) = some (some z, d.sz, bytes))
    (hz : z.cells.size = d.sz) (hsz : 0 < d.sz) (cy : Nat) (hs : a.eval s = v) (hx : a.eval x = .slice A m cy) (h : d.App ok base w E v xs) (hsrc : d.Src (fun k => ok k ∧ some k ≠ v.ownBlock) w A m ys) (hbase : base ≤ w.heap.size)
    (h63 : xs.length + m ≤ maxLen) (hbytes : (xs.length + m) * bytes ≤ 140737488355328)
    (k : ∀ v' w', d.App ok base w' E v' (xs ++ ys) → (0 < m ∨ d.Own ok base w E v xs → d.Own ok base w' E v' (xs ++ ys)) → Below base w w' → (∀ k, k < w.heap.size → some k ≠ v.ownBlock → w'.heap[k]? = w.heap[k]?) →
      (v'.ownBlock = v.ownBlock ∨ ∃ k, v'.ownBlock = some k ∧ w.heap.size ≤ k) → K (a.put op.dst v') w') :
    if Region.wanted op (yielded ops a.tmps) = true then op.wp P a w K Q else X := by
  rw [if_pos (by simp [Region.wanted, hgd])]
  exact wp_app s x T ho hT hinfo hz hsz cy hs hx h hsrc hbase h63 hbytes k
/-- append onto a row without room, at the operation; where the walk stands at it; in a region that draws its order. -/
theorem wp_full {P : Program} {op : Oper} {a : Act} {K : Act → World → Prop} {Q : Exit → Act → World → Prop} (s x : Operand) (T : TypeId)
    (ho : op.op = .call { callee := .builtin .append, args := #[s, x], argTypes := #[T, T] }) {z : Value} {bytes : Nat} (hT : P.underlying T = some (.slice E)) (hinfo : (P.info? E).map (fun i => (i.zero, i.size, i.bytes)) = some (some z, d.sz, bytes))
    (hz : z.cells.size = d.sz) (hsz : 0 < d.sz) (cy : Nat) {B : Option Addr} (hs : a.eval s = .slice A n n) (hx : a.eval x = .slice B m cy) (hrow : d.Row ok w A n n xs) (hsrc : d.Src ok w B m ys) (h0 : 0 < m)
    (h63 : n + m ≤ maxLen) (hbytes : (n + m) * bytes ≤ 140737488355328)
    (k : ∀ v' w', d.Own ok w.heap.size w' E v' (xs ++ ys) → Below w.heap.size w w' → K (a.put op.dst v') w') : op.wp P a w K Q := by
  obtain ⟨v', w', hrun, h1, h2⟩ := hrow.append (P := P) (T := T) (ty := op.type) hT hinfo hz hsz hsrc cy h0 h63 hbytes
  unfold Oper.wp execOp
  simp only [ho, resolve, invoke, builtin, Sem.run_bind, Sem.run_pure, Result.andThen_ok, List.map_toArray, List.map_cons, List.map_nil, hs, hx, hrun]
  exact k v' w' h1 h2
theorem wpList_full {P : Program} {ops : Array Oper} {rest : List Oper} {op : Oper} {a : Act} {Q : Exit → Act → World → Prop} (hgd : op.guard = none) (s x : Operand) (T : TypeId)
    (ho : op.op = .call { callee := .builtin .append, args := #[s, x], argTypes := #[T, T] }) {z : Value} {bytes : Nat} (hT : P.underlying T = some (.slice E)) (hinfo : (P.info? E).map (fun i => (i.zero, i.size, i.bytes)) = some (some z, d.sz, bytes))
    (hz : z.cells.size = d.sz) (hsz : 0 < d.sz) (cy : Nat) {B : Option Addr} (hs : a.eval s = .slice A n n) (hx : a.eval x = .slice B m cy) (hrow : d.Row ok w A n n xs) (hsrc : d.Src ok w B m ys) (h0 : 0 < m)
    (h63 : n + m ≤ maxLen) (hbytes : (n + m) * bytes ≤ 140737488355328)
    (k : ∀ v' w', d.Own ok w.heap.size w' E v' (xs ++ ys) → Below w.heap.size w w' → wpList P ops Q rest (a.put op.dst v') w') : wpList P ops Q (op :: rest) a w :=
  wpList_plain hgd fun _ hK => wp_full s x T ho hT hinfo hz hsz cy hs hx hrow hsrc h0 h63 hbytes fun v' w' h1 h2 => hK _ _ (k v' w' h1 h2)
theorem step_full {P : Program} {ops : Array Oper} {op : Oper} {a : Act} {K : Act → World → Prop} {Q : Exit → Act → World → Prop} {X : Prop} (hgd : op.guard = none) (s x : Operand) (T : TypeId)
    (ho : op.op = .call { callee := .builtin .append, args := #[s, x], argTypes := #[T, T] }) {z : Value} {bytes : Nat} (hT : P.underlying T = some (.slice E)) (hinfo : (P.info? E).map (fun i => (i.zero, i.size, i.bytes)) = some (some z, d.sz, bytes))
    (hz : z.cells.size = d.sz) (hsz : 0 < d.sz) (cy : Nat) {B : Option Addr} (hs : a.eval s = .slice A n n) (hx : a.eval x = .slice B m cy) (hrow : d.Row ok w A n n xs) (hsrc : d.Src ok w B m ys) (h0 : 0 < m)
    (h63 : n + m ≤ maxLen) (hbytes : (n + m) * bytes ≤ 140737488355328)
    (k : ∀ v' w', d.Own ok w.heap.size w' E v' (xs ++ ys) → Below w.heap.size w w' → K (a.put op.dst v') w') :
    if Region.wanted op (yielded ops a.tmps) = true then op.wp P a w K Q else X := by
  rw [if_pos (by simp [Region.wanted, hgd])]
  exact wp_full s x T ho hT hinfo hz hsz cy hs hx hrow hsrc h0 h63 hbytes k
/-- One new element, laid in a block of its own. -/
theorem Kd.Src.new {x : α} {cs : List Value} (h : d.K ok w x cs) (C : Array Value) (hC : C.toList = cs) (H : Nat) (hH : w.heap.size = H) : d.Src ok (w.alloc (.cells C E)) (some ⟨H, 0, none⟩) 1 [x] := by
  subst hH
  refine ⟨rfl, [cs], (Kd.Els.single h).keep (fun k _ hk => Below.heap_alloc w _ k hk), fun _ => ⟨_, 0, rfl, fun j u hu => ?_⟩⟩
  rw [cell_of_row _ _ _ C E (0, 0) (heap_alloc_new w _)]
  simp only [List.flatten_cons, List.flatten_nil, List.append_nil] at hu
  rw [← hC] at hu
  simpa using hu
theorem Kd.Src.blk {x : α} {cs : List Value} {C : Array Value} {g : Nat} {fr : Nat × Nat} (hg : w.heap[g]? = some (.cells C E fr)) (h : d.K ok w x cs) (hC : C.toList = cs) : d.Src ok w (some ⟨g, 0, none⟩) 1 [x] := by
  refine ⟨rfl, [cs], Kd.Els.single h, fun _ => ⟨_, 0, rfl, fun j u hu => ?_⟩⟩
  rw [cell_of_row _ _ _ C E fr hg]
  simp only [List.flatten_cons, List.flatten_nil, List.append_nil] at hu
  rw [← hC] at hu
  simpa using hu
theorem Kd.App.keep (h : d.App ok base w E v xs) (_hb : base ≤ w.heap.size) (hk : ∀ k, k < w.heap.size → (k < base ∨ ok k ∨ some k = v.ownBlock) → w'.heap[k]? = w.heap[k]?) : d.App ok base w' E v xs := by
  rcases h with h | ⟨A, rfl, h⟩
  · exact .inl (h.keep fun k h1 h2 => hk k h1 (.inr h2))
  · exact .inr ⟨A, rfl, h.keep fun k h1 h2 => hk k h2 (.inl h1.2)⟩
theorem Kd.App.alloc (h : d.App ok base w E v xs) (hb : base ≤ w.heap.size) (o : Obj) : d.App ok base (w.alloc o) E v xs := h.keep hb fun k hk _ => Below.heap_alloc w o k hk
theorem Kd.App.below (h : d.App ok base w E v xs) (hb : base ≤ w.heap.size) (hw : Below w.heap.size w w') : d.App ok base w' E v xs := h.keep hb fun k hk _ => hw.block k hk
theorem Kd.App.form (h : d.App ok base w E v xs) : ∃ A c, v = .slice A xs.length c := by
  rcases h with h | ⟨A, rfl, _⟩
  · exact h.form
  · exact ⟨_, _, rfl⟩
end

/-- A row that is laid out whole. -/
theorem Kd.Own.lit {α : Type} {d : Kd α} {ok : Nat → Prop} {base : Nat} {w : World} {E : TypeId} {xs : List α} {css : List (List Value)} (h : d.Els ok w xs css) (C : Array Value) (hC : C.toList = css.flatten) (n : Nat) (hn : xs.length = n) (hm : n ≤ maxLen) (H : Nat) (hH : w.heap.size = H) (hb : base ≤ H) :
    d.Own ok base (w.alloc (.cells C E)) E (.slice (some ⟨H, 0, none⟩) n n) xs := by
  subst hH
  have hl := flat_len h.lens
  rw [h.1, hn] at hl
  refine ⟨css, ((h.bound.more (ok' := fun k => (ok k ∧ some k ≠ some w.heap.size) ∧ k < w.heap.size) (fun k hk => ⟨⟨hk.1, fun e => by have := Option.some.inj e; omega⟩, hk.2⟩)).keep (fun k _ hk => Below.heap_alloc w _ k hk)).more (fun k hk => hk.1), ?_⟩
  rw [hn]
  refine ⟨hl, .inr ⟨w.heap.size, n, C, rfl, hb, heap_alloc_new w _, Nat.le_refl _, hm, ?_, ?_⟩⟩
  · rw [← Array.length_toList, hC, hl]
  · rw [hC, List.take_of_length_le (by omega)]

theorem kU8_row {w : World} {ok : Nat → Prop} {x : UInt8} {cs : List Value} (h : kU8.K ok w x cs) : cs = [bv x] := h.1

end Go.Proofs.YtdkeflhgengblaaDoor
namespace Go.Proofs.YtdkeflhgengblaaDoor
open Go.ChangeShapes Go.WideShapes Go.ChangeAt Go.RowKit

section
variable {H : Type} {enc : TypeId × Value → H} {P : Program}
theorem stays_all {W W' : World} {sp : Nat → Bool} (hl : laidOutB P = true) (hb : Below W.heap.size W W') : ∀ {ts : List TypeId} {vs : List Value} {ds : List (DataW H)} {p : List MemPlace}, ts.all (fun t => P.readableRec t && decide (t < P.types.size)) = true →
    DataW.TrodAll enc P W 0 (fun _ => true) true ts vs ds p → (∀ x ∈ p, x.block < W.heap.size) → (∀ x ∈ p, sp x.block = true) → DataW.TrodAll enc P W' 0 sp true ts vs ds p
  | [], _, _, _, _, h, _, _ => by
    obtain ⟨rfl, rfl, rfl⟩ := trodAll_nil h
    exact trodAll_mk0
  | t :: ts, _, _, _, ht, h, hlt, hs => by
    obtain ⟨v, vs1, d, ds1, a, b, rfl, rfl, rfl, h1, h2⟩ := trodAll_cons h
    simp only [List.all_cons, Bool.and_eq_true, decide_eq_true_eq] at ht
    exact ⟨a, b, Go.WideElems.Trod_stays hl ht.1.1 ht.1.2 h1 (fun x hx => hb.same (hlt x (by simp [hx]))) (fun x hx => hs x (by simp [hx])),
      stays_all hl hb (by simpa using ht.2) h2 (fun x hx => hlt x (by simp [hx])) (fun x hx => hs x (by simp [hx])), rfl⟩

theorem post_true {f : Func} {s : ChangeSpec} {apart fresh handsOn again : Bool} {W W' : World} {args : Array Value} {ds gs : List (DataW H)} {before : List MemPlace} {tb : TypeId} (hl : laidOutB P = true)
    (hp : f.params.toList.all (fun t => P.readableRec t && decide (t < P.types.size)) = true) (hr : f.resultTypes = #[tb]) (hbt : P.underlying tb = some .bool) (hsv : s.vars = [])
    (hW : DataW.Whole enc P f.params.toList s.vars apart W args.toList ds gs before) (hfn : s.fn H (ds ++ gs) = { results := [.lit (.bool true)], args := ds }) (hb : Below W.heap.size W W') :
    s.post enc P f apart fresh handsOn again W args (.bool true) W' := by
  have hlt : ∀ p ∈ before, p.block < W.heap.size := fun p hp => hW.lt p hp
  have hold : ∀ p ∈ before, (fun b => decide (b < W.heap.size)) p.block = true := fun p hp => by simpa using hlt p hp
  have hW' := hW
  obtain ⟨p, q, hA, hV, rfl, hz, hn⟩ := hW
  rw [hsv] at hV
  obtain ⟨rfl, rfl⟩ := trodVars_none hV
  have hargs : ∀ sp : Nat → Bool, (∀ x ∈ p, sp x.block = true) → DataW.TrodAll enc P W' 0 sp true f.params.toList args.toList (s.fn H (ds ++ [])).args p := fun sp hs => by
    rw [hfn]
    exact stays_all hl hb hp hA (fun x hx => hlt x (by simp [hx])) hs
  have hres : ∀ (b : Nat) (sp : Nat → Bool) (hd : Bool), DataW.TrodAll enc P W' b sp hd f.resultTypes.toList ((Value.bool true).resultList f.resultTypes.size) (s.fn H (ds ++ [])).results [] := fun b sp hd => by
    rw [hfn, hr]
    exact trodAll_mk1 (shut_bool hbt _)
  have hvars : ∀ sp : Nat → Bool, DataW.TrodVars enc P W' sp s.vars (s.fn H (ds ++ [])).vars [] := fun sp => by
    rw [hfn, hsv]
    simp [DataW.TrodVars]
  refine ⟨ds, [], p ++ [], [], p, [], hW', hres _ _ _, hargs _ (fun x hx => hold x (by simp [hx])), hvars _, World.keptBut_mono (fun x hx => ⟨hx, ?_⟩) (hb.frame (· ∈ p ++ [])), fun _ => ?_⟩
  · exact Or.inr (by simpa using hx)
  · refine ⟨ok_one hr rfl (okWide_bool_mk hbt _), _, _, ([] ++ p) ++ [], ⟨[] ++ p, [], trodAll_append (hargs _ (fun _ _ => rfl)) (hres _ _ _), hvars _, rfl, ?_, ?_⟩, ?_⟩
    · intro b off hp'
      have hin : MemPlace.cell b off ∈ p ++ [] := by simpa using hp'
      rw [hb.frozen (hlt _ hin)]
      exact hz b off hin
    · intro ha
      have := hn ha
      simpa using this
    · intro x hx _
      simpa using hx

theorem Addr.add_none (b o k : Nat) : (⟨b, o, none⟩ : Addr).add k = ⟨b, o + k, none⟩ := by
  unfold Addr.add
  split <;> simp_all
theorem list_of {α : Type} {Q : Nat → α → Prop} : ∀ n, (∀ i, i < n → ∃ y, Q i y) → ∃ xs : List α, xs.length = n ∧ ∀ i y, xs[i]? = some y → Q i y
  | 0, _ => ⟨[], rfl, fun i y h => by simp at h⟩
  | n + 1, h => by
    obtain ⟨xs, hl, hx⟩ := list_of n (fun i hi => h i (by omega))
    obtain ⟨y, hy⟩ := h n (by omega)
    refine ⟨xs ++ [y], by simp [hl], fun i z hz => ?_⟩
    rcases Nat.lt_or_ge i xs.length with h' | h'
    · rw [List.getElem?_append_left h'] at hz; exact hx i z hz
    · rw [List.getElem?_append_right h'] at hz
      have : i = n := by
        have := (List.getElem?_eq_some_iff.1 hz).1
        simp at this
        omega
      subst this
      rw [hl, Nat.sub_self] at hz
      obtain rfl : y = z := by simpa using hz
      exact hy

variable {w : World} {spare : Nat → Bool} {held : Bool}
theorem trod_row {α : Type} {d : Kd α} {t e : TypeId} {fuel : Nat} {cs : List Value} {x : DataW H × List MemPlace} (hT : P.underlying t = some (.slice e)) (hsz : P.cellsOf e = d.sz) (h0 : 0 < d.sz)
    (hel : ∀ n cs x, DataW.trod enc P w 0 spare held n e cs = some x → ∃ y, d.K (· < w.heap.size) w y cs) (h : DataW.trod enc P w 0 spare held fuel t cs = some x) :
    ∃ A n c xs, cs = [.slice A n c] ∧ d.Row (· < w.heap.size) w A n c xs := by
  rcases Go.Deep.open_slice hT h with ⟨rfl, _⟩ | ⟨a, len, cap, m, n, D, Pl, rfl, _, hl, hm, hmm, _, hi⟩
  · exact ⟨_, _, _, [], rfl, .nil _ _ _ _ _ (Nat.zero_le _)⟩
  · have hlm : len ≤ m := by rw [hmm]; split <;> omega
    rcases Nat.eq_zero_or_pos len with hz | hpos
    · subst hz
      exact ⟨_, _, _, [], rfl, .nil _ _ _ _ _ hm⟩
    have hsp : a.spot = none ∧ a.block < w.heap.size := by
      obtain ⟨cs', hcs, htr⟩ := hi 0 (by omega)
      obtain ⟨_, hcl, hat⟩ := World.cells?_some hcs
      have hg : w.cell? a = some (cs'[0]'(by omega)) := by
        have := (hat 0 (by omega)).trans (List.getElem?_eq_getElem (by omega))
        simpa [Addr.add] using this
      exact ⟨World.cell?_spot hg, World.block_lt_of_cell? w _ hg⟩
    obtain ⟨b, o, sp⟩ := a
    obtain ⟨rfl, hlt⟩ := hsp
    have hc : ∀ i, i < len → ∃ y, ∃ cs, d.K (· < w.heap.size) w y cs ∧ w.rangeAt b (o + i * d.sz) cs := fun i hil => by
      obtain ⟨cs', hcs, htr⟩ := hi i (by omega)
      obtain ⟨y, hy⟩ := hel _ _ _ htr
      obtain ⟨_, hcl, hat⟩ := World.cells?_some hcs
      rw [hsz] at hcl hat
      refine ⟨y, cs', hy, fun j v hv => ?_⟩
      have := hat j (by rw [← hcl]; exact (List.getElem?_eq_some_iff.1 hv).1)
      rw [hv, Addr.add_none, Addr.add_none] at this
      exact this
    obtain ⟨xs, hxl, hx⟩ := list_of len hc
    exact ⟨_, _, _, xs, rfl, hxl, hl, hm, fun hn => ⟨b, o, rfl, hlt, hlt, fun i x hix => hx i x hix⟩⟩
end
end Go.Proofs.YtdkeflhgengblaaDoor
namespace Go.Proofs.YtdkeflhgengblaaDoor
open Go.RowKit

/-- The text of some bytes. -/
abbrev txt (l : List UInt8) : ByteArray := ⟨l.toArray⟩
abbrev byt (s : ByteArray) : List UInt8 := s.data.toList
theorem txt_byt (s : ByteArray) : txt (byt s) = s := by cases s; simp [byt]
theorem byt_txt (l : List UInt8) : byt (txt l) = l := by show l.toArray.toList = l; rw [List.toList_toArray]
theorem byt_len (s : ByteArray) : (byt s).length = s.size := by show s.data.toList.length = s.data.size; rw [Array.length_toList]
theorem txt_size (l : List UInt8) : (txt l).size = l.length := by simp [ByteArray.size]

section
variable {P : Program} {ok : Nat → Prop} {base : Nat} {w w' : World} {E : TypeId} {v : Value} {xs ys : List UInt8} {A : Option Addr} {n m c : Nat}

theorem src8 {ok' : Nat → Prop} (h : kU8.Src ok w A m xs) : kU8.Src ok' w A m xs := let ⟨h1, css, he, hc⟩ := h; ⟨h1, css, ⟨he.1, fun i x cs hx hcs => he.2 i x cs hx hcs⟩, hc⟩
theorem row8 {ok' : Nat → Prop} (h : kU8.Row ok w A n c xs) (hk : ∀ k, k < w.heap.size → ok k → ok' k) : kU8.Row ok' w A n c xs :=
  h.bound.more fun k hk' => hk k hk'.2 hk'.1
theorem row_bytes (h : kU8.Row ok w A n c xs) (hn : 0 < n) : ∃ b o, A = some ⟨b, o, none⟩ ∧ ok b ∧ b < w.heap.size ∧ ∀ i x, xs[i]? = some x → w.cell? ⟨b, o + i, none⟩ = some (bv x) := by
  obtain ⟨b, o, e, hb, hlt, hc⟩ := h.2.2.2 hn
  refine ⟨b, o, e, hb, hlt, fun i x hx => ?_⟩
  obtain ⟨cs, h1, h2⟩ := hc i x hx
  rw [h1.1] at h2
  have := h2 0 (bv x) rfl
  simpa [kU8, Kd.cell] using this
/-- string(bytes) -/
theorem row_string {S D : TypeId} (hS : P.underlying S = some (.slice E)) (hE : P.underlying E = some (.int .u8)) (hD : P.underlying D = some .string) (h : kU8.Row ok w A n c xs) :
    (convert S D (.slice A n c)).run P w = .ok (.string (txt xs)) w := by
  rcases Nat.eq_zero_or_pos n with h0 | h0
  · have hx : xs = [] := List.eq_nil_of_length_eq_zero (by rw [h.1]; exact h0)
    subst hx h0
    cases A with
    | none => exact run_convert_bytes_nil w S E hS hE 0 c D hD
    | some a =>
      have hl : (loadCells a 0).run P w = .ok (([] : List Int).map (Value.int .u8)).toArray w := by simp [loadCells, loadCellsFrom]
      rw [run_convert_bytes_string w S D E _ 0 c hS hE hD, run_bytesToString w a 0 c [] hl]
      rfl
  · obtain ⟨b, o, rfl, _, _, hc⟩ := row_bytes h h0
    have hlen : (xs.map fun x => (x.toNat : Int)).length = n := by simpa using h.1
    rw [run_convert_bytes_arg w S E hS hE b o n c (xs.map fun x => (x.toNat : Int)) hlen (fun i hi => ?_) D hD]
    · congr 2
      simp only [strOfNums, txt]
      congr 2
      rw [List.map_map]
      conv => rhs; rw [← List.map_id xs]
      apply List.map_congr_left
      intro x _
      simp
    · have hx : i < xs.length := by rw [h.1]; exact hi
      rw [hc i _ (List.getElem?_eq_getElem hx)]
      simp [List.getElem?_eq_getElem hx]
/-- []byte(text) -/
theorem bytes_new (w : World) (E : TypeId) (s : ByteArray) (hs : s.size ≤ 9223372036854775807) : kU8.Row (fun k => k = w.heap.size) (Lib.bytesWorld w E s) (some ⟨w.heap.size, 0, none⟩) s.size (grownCap w s.size 0 E) (byt s) := by
  refine ⟨byt_len s, grownCap_ge _ _ _ _, grownCap_le_maxLen _ _ _ _ (by simp only [maxLen]; omega), fun hn => ⟨_, 0, rfl, rfl, by rw [Lib.bytesWorld_size]; omega, fun i x hx => ⟨[bv x], ⟨rfl, trivial⟩, fun j u hu => ?_⟩⟩⟩
  have hi : i < s.size := by have := (List.getElem?_eq_some_iff.1 hx).1; rwa [byt_len] at this
  match j, hu with
  | 0, hu =>
    simp at hu
    subst hu
    have := Lib.bytesWorld_cell w E s i hi
    simp only [kU8, Kd.cell, Nat.mul_one, Nat.zero_add, Nat.add_zero]
    rw [this, List.getD_eq_getElem?_getD]
    simp only [byt] at hx
    rw [hx]
    rfl
  | j + 1, hu => simp at hu
theorem bytesWorld_below (w : World) (E : TypeId) (s : ByteArray) : Below w.heap.size w (Lib.bytesWorld w E s) := by
  refine ⟨?_, ?_, ?_, by rw [Lib.bytesWorld_size]; omega, fun k hk => Lib.bytesWorld_at_old w E s k hk⟩ <;> simp [Lib.bytesWorld, World.freeze, World.drew, World.alloc, -World.alloc_eq, -World.drew_eq]
theorem wpList_tobytes {ops : Array Oper} {rest : List Oper} {op : Oper} {a : Act} {Q : Exit → Act → World → Prop} (hgd : op.guard = none) (S D : TypeId) (x : Operand) (ho : op.op = .convert S D x) (s : ByteArray) (hx : a.eval x = .string s)
    (hS : P.underlying S = some .string) (hD : P.underlying D = some (.slice E)) (hE : P.underlying E = some (.int .u8)) (hs : s.size ≤ 9223372036854775807) (H : Nat) (hH : w.heap.size = H)
    (k : ∀ c w', kU8.Row (fun k => k = H) w' (some ⟨H, 0, none⟩) s.size c (byt s) → Below H w w' → H < w'.heap.size → wpList P ops Q rest (a.put op.dst (.slice (some ⟨H, 0, none⟩) s.size c)) w') : wpList P ops Q (op :: rest) a w := by
  subst hH
  refine wpList_plain hgd fun K hK => ?_
  unfold Oper.wp execOp
  simp only [ho, hx, Sem.run_bind, Sem.run_pure, Result.andThen_ok, Lib.run_convert_string_bytes w S D E s hS hD hE]
  exact hK _ _ (k _ _ (bytes_new w E s hs) (bytesWorld_below w E s) (by rw [Lib.bytesWorld_size]; omega))

/-- append of a text's bytes. -/
theorem App.append_str {T U ty : TypeId} (hT : P.underlying T = some (.slice E)) (hU : P.underlying U = some .string) (hinfo : (P.info? E).map (fun i => (i.zero, i.size, i.bytes)) = some (some (.int .u8 0), 1, 1))
    (h : kU8.App ok base w E v xs) (hbase : base ≤ w.heap.size) (s : ByteArray) (hlen : xs.length + s.size ≤ 140737488355328) :
    ∃ v' w', (Builtin.append_ #[T, U] ty #[v, .string s]).run P w = .ok v' w' ∧ kU8.App ok base w' E v' (xs ++ byt s) ∧ (0 < s.size ∨ kU8.Own ok base w E v xs → kU8.Own ok base w' E v' (xs ++ byt s)) ∧ Below base w w' ∧
      (∀ k, k < w.heap.size → some k ≠ v.ownBlock → w'.heap[k]? = w.heap[k]?) ∧ (v'.ownBlock = v.ownBlock ∨ ∃ k, v'.ownBlock = some k ∧ w.heap.size ≤ k) := by
  obtain ⟨i0, hi, hzz⟩ := Option.map_eq_some_iff.1 hinfo
  simp only [Prod.mk.injEq] at hzz
  obtain ⟨hz0, hz1, hz2⟩ := hzz
  have hsl : (Lib.strCells s).length = s.size := Lib.strCells_length s
  have hcel : ∀ l : List UInt8, (l.map fun x => [bv x]).flatten = l.map bv := fun l => by induction l <;> simp_all
  have hels : ∀ (W : World) (o : Nat → Prop) (l : List UInt8), kU8.Els o W l (l.map fun x => [bv x]) := fun W o l =>
    ⟨by simp, fun i x cs hx hc => by simp [List.getElem?_map, hx] at hc; subst hc; exact ⟨rfl, trivial⟩⟩
  have hstr : Lib.strCells s = (byt s).map bv := rfl
  have fin : ∀ (v' : Value) (w' : World), w'.ownsRow base E 1 v' (xs.length + s.size) (xs.map bv ++ Lib.strCells s) → kU8.Own ok base w' E v' (xs ++ byt s) := by
    intro v' w' ho
    refine ⟨(xs ++ byt s).map fun x => [bv x], hels _ _ _, ?_⟩
    rw [hcel, List.map_append, List.length_append, byt_len]
    exact ho
  have new : ∀ (cap : Nat) (Wn : World) (cells : Array Value), Wn = w.drew.alloc (.cells cells E) → xs.length + s.size ≤ cap → cap ≤ maxLen → cells.size = cap → cells.toList.take (xs.length + s.size) = xs.map bv ++ Lib.strCells s →
      Wn.ownsRow base E 1 (.slice (some ⟨w.heap.size, 0, none⟩) (xs.length + s.size) cap) (xs.length + s.size) (xs.map bv ++ Lib.strCells s) ∧ Below base w Wn ∧ (∀ k, k < w.heap.size → Wn.heap[k]? = w.heap[k]?) := by
    rintro cap Wn cells rfl h1 h2 h3 h4
    refine ⟨⟨by simp [hsl], .inr ⟨w.heap.size, cap, cells, rfl, hbase, heap_alloc_new w.drew _, h1, h2, by simpa using h3, by simpa using h4⟩⟩, ⟨rfl, rfl, rfl, by simp, fun k hk => Below.heap_alloc w.drew _ k (by show k < w.heap.size; omega)⟩, fun k hk => Below.heap_alloc w.drew _ k hk⟩
  have take_ok : ∀ (a b : List Value) (z : Array Value), a.length = xs.length → b.length = s.size → (a.toArray ++ b.toArray ++ z).toList.take (xs.length + s.size) = a ++ b := by
    intro a b z ha hb
    simp only [Array.toList_append, List.append_assoc]
    rw [← List.append_assoc, show xs.length + s.size = (a ++ b).length from by simp [ha, hb]]
    exact List.take_left
  have size_ok : ∀ (a b : List Value) (cap : Nat), a.length = xs.length → b.length = s.size → xs.length + s.size ≤ cap → (a.toArray ++ b.toArray ++ Builtin.zeroCells (Value.int .u8 0).cells (cap - (xs.length + s.size))).size = cap := by
    intro a b cap ha hb hc
    have hz1 : (Value.int IntKind.u8 0).cells.size = 1 := rfl
    simp only [Array.size_append, List.size_toArray, size_zeroCells, hz1, ha, hb]
    omega
  have grow : ∀ (b : Addr) (cap : Nat), (∀ j u, (xs.map bv)[j]? = some u → w.cell? (b.add j) = some u) → cap < xs.length + s.size →
      ∃ v' w', (Builtin.append_ #[T, U] ty #[.slice (some b) xs.length cap, .string s]).run P w = .ok v' w' ∧ w'.ownsRow base E 1 v' (xs.length + s.size) (xs.map bv ++ Lib.strCells s) ∧ Below base w w' ∧ (∀ k, k < w.heap.size → w'.heap[k]? = w.heap[k]?) ∧ v'.ownBlock = some w.heap.size := by
    intro b cap hc hlt
    have hr := Lib.run_append_grow_string (P := P) w T U ty E i0 (.int .u8 0) hT hU hi hz0 b xs.length cap (xs.map bv) (by simp [hz1]) hc s hlt (by omega) (by rw [hz2]; exact growslice_fits (by omega) (by omega))
    have hge := grownCap_ge w (xs.length + s.size) cap E
    have hle := grownCap_le_maxLen w (xs.length + s.size) cap E (by simp only [maxLen]; omega)
    obtain ⟨n1, n2, n3⟩ := new _ _ _ rfl hge hle (size_ok _ _ _ (by simp) hsl hge) (take_ok _ _ _ (by simp) hsl)
    exact ⟨_, _, hr, n1, n2, n3, rfl⟩
  have zero : s.size = 0 → ∀ Av nv cv, v = .slice Av nv cv → nv ≤ cv → (Builtin.append_ #[T, U] ty #[v, .string s]).run P w = .ok v w := by
    intro h0 Av nv cv hv hnc
    have hf := Lib.run_firstCells_string (P := P) w 1 s
    have he : Lib.strCells s = [] := List.eq_nil_of_length_eq_zero (by rw [hsl]; exact h0)
    rw [h0, he] at hf
    subst hv
    cases Av <;> simp [Builtin.append_, run_underlying hT, run_underlying hU, sizeOf, typeInfo, hi, hz1, Builtin.lenOf, h0, hnc, hf, storeCells]
  by_cases h0 : s.size = 0
  · have hy : byt s = [] := List.eq_nil_of_length_eq_zero (by rw [byt_len]; exact h0)
    rw [hy, List.append_nil]
    have hf : ∃ Av nv cv, v = .slice Av nv cv ∧ nv ≤ cv := by
      rcases h with ⟨css, _, ho⟩ | ⟨Av, rfl, hr⟩
      · rcases ho.2 with ⟨rfl, h0⟩ | ⟨g, cap, cur, rfl, _, _, hnc, _⟩
        · exact ⟨_, _, _, rfl, Nat.le_refl _⟩
        · exact ⟨_, _, _, rfl, hnc⟩
      · exact ⟨_, _, _, rfl, Nat.le_refl _⟩
    obtain ⟨Av, nv, cv, hv, hnc⟩ := hf
    exact ⟨v, w, zero h0 Av nv cv hv hnc, h, fun hh => hh.resolve_left (by omega), Below.refl _ _, fun _ _ _ => rfl, .inl rfl⟩
  · have wrap : ∀ {v' : Value} {w' : World}, w'.ownsRow base E 1 v' (xs.length + s.size) (xs.map bv ++ Lib.strCells s) → kU8.App ok base w' E v' (xs ++ byt s) ∧ (0 < s.size ∨ kU8.Own ok base w E v xs → kU8.Own ok base w' E v' (xs ++ byt s)) := fun ho => ⟨.inl (fin _ _ ho), fun _ => fin _ _ ho⟩
    have nilcase : (Builtin.append_ #[T, U] ty #[.slice none 0 0, .string s]).run P w = .ok (.slice (some ⟨w.heap.size, 0, none⟩) s.size (grownCap w s.size 0 E)) (w.drew.alloc (.cells (([] : List Value).toArray ++ (Lib.strCells s).toArray ++ Builtin.zeroCells (Value.int .u8 0).cells (grownCap w s.size 0 E - (0 + s.size))) E)) := by
      have hr := run_append_nil_string (P := P) w T U ty E i0 (.int .u8 0) hT hU hi hz0 s (by omega) (by omega) (by rw [hz2]; omega)
      have e1 : (s.data.map fun b => Value.int .u8 b.toNat) = (Lib.strCells s).toArray := by
        apply Array.ext'
        simp [Lib.strCells]
      rw [e1] at hr
      simpa using hr
    have fromnil : xs = [] → v = .slice none 0 0 → ∃ v' w', (Builtin.append_ #[T, U] ty #[v, .string s]).run P w = .ok v' w' ∧ w'.ownsRow base E 1 v' (xs.length + s.size) (xs.map bv ++ Lib.strCells s) ∧ Below base w w' ∧ (∀ k, k < w.heap.size → w'.heap[k]? = w.heap[k]?) ∧ v'.ownBlock = some w.heap.size := by
      rintro rfl rfl
      have hge := grownCap_ge w s.size 0 E
      have hle := grownCap_le_maxLen w s.size 0 E (by simp only [maxLen]; omega)
      obtain ⟨n1, n2, n3⟩ := new (grownCap w s.size 0 E) _ _ rfl (by simpa using hge) hle (size_ok [] _ _ rfl hsl (by simpa using hge)) (take_ok [] _ _ rfl hsl)
      exact ⟨_, _, nilcase, by simpa using n1, n2, n3, rfl⟩
    rcases h with ⟨css, he, ho⟩ | ⟨Av, rfl, hrow⟩
    · have hcss : css.flatten = xs.map bv := by
        have : css = xs.map fun x => [bv x] := by
          apply List.ext_getElem?
          intro i
          rw [List.getElem?_map]
          by_cases hi' : i < xs.length
          · have h1 : xs[i]? = some xs[i] := List.getElem?_eq_getElem hi'
            have h2 : css[i]? = some (css[i]'(by rw [he.1]; exact hi')) := List.getElem?_eq_getElem _
            rw [h2, h1, (he.2 i _ _ h1 h2).1]
            rfl
          · rw [List.getElem?_eq_none (by rw [he.1]; omega), List.getElem?_eq_none (by omega)]; rfl
        rw [this, hcel]
      rw [hcss] at ho
      rcases ho.2 with ⟨rfl, h0'⟩ | ⟨g, cap, cur, rfl, hbg, hg, hnc, hcm, hcs, htake⟩
      · obtain ⟨v', w', hr, h1, h2, h3, h4⟩ := fromnil (List.eq_nil_of_length_eq_zero h0') rfl
        exact ⟨v', w', hr, (wrap h1).1, (wrap h1).2, h2, fun k hk _ => h3 k hk, .inr ⟨_, h4, Nat.le_refl _⟩⟩
      · have hcs' : cur.size = cap := by simpa [kU8, Kd.cell] using hcs
        have ht' : cur.toList.take xs.length = xs.map bv := by simpa [kU8, Kd.cell] using htake
        by_cases hroom : xs.length + s.size ≤ cap
        · have hr := Lib.run_append_room_string (P := P) w T U ty E i0 hT hU hi hz1 g xs.length cap cur hg s hroom (by omega)
          have ho' : (w.setRow g (cur.toList.take xs.length ++ Lib.strCells s ++ cur.toList.drop (xs.length + s.size)).toArray).ownsRow base E 1 (.slice (some ⟨g, 0, none⟩) (xs.length + s.size) cap) (xs.length + s.size) (xs.map bv ++ Lib.strCells s) := by
            refine ⟨by simp [hsl], .inr ⟨g, cap, _, rfl, hbg, setRow_heap w g cur _ E _ hg, hroom, hcm, ?_, ?_⟩⟩
            · simp only [List.size_toArray, List.length_append, List.length_take, List.length_drop, Array.length_toList, hsl]
              omega
            · rw [ht', show (xs.length + s.size) * 1 = (xs.map bv ++ Lib.strCells s).length from by simp [hsl]]
              exact List.take_left
          have hother : ∀ k, some k ≠ some g → (w.setRow g (cur.toList.take xs.length ++ Lib.strCells s ++ cur.toList.drop (xs.length + s.size)).toArray).heap[k]? = w.heap[k]? := fun k hk => setRow_other w g k _ (fun e => hk (by rw [e]))
          exact ⟨_, _, hr, (wrap ho').1, (wrap ho').2, ⟨rfl, rfl, rfl, by simp, fun k hk => hother k (fun e => by have := Option.some.inj e; omega)⟩, fun k _ hk => hother k (by simpa [Value.ownBlock] using hk), .inl rfl⟩
        · obtain ⟨v', w', hr, h1, h2, h3, h4⟩ := grow ⟨g, 0, none⟩ cap (ho.cells (g := g) rfl) (by omega)
          exact ⟨v', w', hr, (wrap h1).1, (wrap h1).2, h2, fun k hk _ => h3 k hk, .inr ⟨_, h4, Nat.le_refl _⟩⟩
    · cases Av with
      | none =>
        have hx : xs = [] := by
          rcases Nat.eq_zero_or_pos xs.length with h' | h'
          · exact List.eq_nil_of_length_eq_zero h'
          · obtain ⟨b', o', e, _⟩ := hrow.2.2.2 h'; cases e
        subst hx
        obtain ⟨v', w', hr, h1, h2, h3, h4⟩ := fromnil rfl rfl
        exact ⟨v', w', hr, (wrap h1).1, (wrap h1).2, h2, fun k hk _ => h3 k hk, .inr ⟨_, h4, Nat.le_refl _⟩⟩
      | some A0 =>
        obtain ⟨v', w', hr, h1, h2, h3, h4⟩ := grow A0 xs.length (fun j u hu => by
          have hj : j < xs.length := by have := (List.getElem?_eq_some_iff.1 hu).1; simpa using this
          obtain ⟨b', o', e, _, _, hc⟩ := row_bytes hrow (by omega)
          have e := Option.some.inj e
          subst e
          rw [Addr.add_mid]
          rw [List.getElem?_map, List.getElem?_eq_getElem hj] at hu
          have hu := Option.some.inj hu
          rw [← hu]
          exact hc j _ (List.getElem?_eq_getElem hj)) (by omega)
        exact ⟨v', w', hr, (wrap h1).1, (wrap h1).2, h2, fun k hk _ => h3 k hk, .inr ⟨_, h4, Nat.le_refl _⟩⟩

theorem wp_app_str {op : Oper} {a : Act} {K : Act → World → Prop} {Q : Exit → Act → World → Prop} (sl x : Operand) (T U : TypeId) (ho : op.op = .call { callee := .builtin .append, args := #[sl, x], argTypes := #[T, U] })
    (hT : P.underlying T = some (.slice E)) (hU : P.underlying U = some .string) (hinfo : (P.info? E).map (fun i => (i.zero, i.size, i.bytes)) = some (some (.int .u8 0), 1, 1)) (s : ByteArray) (hs : a.eval sl = v) (hx : a.eval x = .string s)
    (h : kU8.App ok base w E v xs) (hbase : base ≤ w.heap.size) (hlen : xs.length + s.size ≤ 140737488355328)
    (k : ∀ v' w', kU8.App ok base w' E v' (xs ++ byt s) → (0 < s.size ∨ kU8.Own ok base w E v xs → kU8.Own ok base w' E v' (xs ++ byt s)) → Below base w w' → (∀ k, k < w.heap.size → some k ≠ v.ownBlock → w'.heap[k]? = w.heap[k]?) →
      (v'.ownBlock = v.ownBlock ∨ ∃ k, v'.ownBlock = some k ∧ w.heap.size ≤ k) → K (a.put op.dst v') w') : op.wp P a w K Q := by
  obtain ⟨v', w', hrun, h1, h2, h3, h4, h5⟩ := App.append_str (P := P) (T := T) (U := U) (ty := op.type) hT hU hinfo h hbase s hlen
  unfold Oper.wp execOp
  simp only [ho, resolve, invoke, builtin, Sem.run_bind, Sem.run_pure, Result.andThen_ok, List.map_toArray, List.map_cons, List.map_nil, hs, hx, hrun]
  exact k v' w' h1 h2 h3 h4 h5
theorem wpList_app_str {ops : Array Oper} {rest : List Oper} {op : Oper} {a : Act} {Q : Exit → Act → World → Prop} (hgd : op.guard = none) (sl x : Operand) (T U : TypeId) (ho : op.op = .call { callee := .builtin .append, args := #[sl, x], argTypes := #[T, U] })
    (hT : P.underlying T = some (.slice E)) (hU : P.underlying U = some .string) (hinfo : (P.info? E).map (fun i => (i.zero, i.size, i.bytes)) = some (some (.int .u8 0), 1, 1)) (s : ByteArray) (hs : a.eval sl = v) (hx : a.eval x = .string s)
    (h : kU8.App ok base w E v xs) (hbase : base ≤ w.heap.size) (hlen : xs.length + s.size ≤ 140737488355328)
    (k : ∀ v' w', kU8.App ok base w' E v' (xs ++ byt s) → (0 < s.size ∨ kU8.Own ok base w E v xs → kU8.Own ok base w' E v' (xs ++ byt s)) → Below base w w' → (∀ k, k < w.heap.size → some k ≠ v.ownBlock → w'.heap[k]? = w.heap[k]?) →
      (v'.ownBlock = v.ownBlock ∨ ∃ k, v'.ownBlock = some k ∧ w.heap.size ≤ k) → wpList P ops Q rest (a.put op.dst v') w') : wpList P ops Q (op :: rest) a w :=
  wpList_plain hgd fun _ hK => wp_app_str sl x T U ho hT hU hinfo s hs hx h hbase hlen fun v' w' h1 h2 h3 h4 h5 => hK _ _ (k v' w' h1 h2 h3 h4 h5)
theorem step_app_str {ops : Array Oper} {op : Oper} {a : Act} {K : Act → World → Prop} {Q : Exit → Act → World → Prop} {X : Prop} (hgd : op.guard = none) (sl x : Operand) (T U : TypeId) (ho : op.op = .call { callee := .builtin .append, args := #[sl, x], argTypes := #[T, U] })
    (hT : P.underlying T = some (.slice E)) (hU : P.underlying U = some .string) (hinfo : (P.info? E).map (fun i => (i.zero, i.size, i.bytes)) = some (some (.int .u8 0), 1, 1)) (s : ByteArray) (hs : a.eval sl = v) (hx : a.eval x = .string s)
    (h : kU8.App ok base w E v xs) (hbase : base ≤ w.heap.size) (hlen : xs.length + s.size ≤ 140737488355328)
    (k : ∀ v' w', kU8.App ok base w' E v' (xs ++ byt s) → (0 < s.size ∨ kU8.Own ok base w E v xs → kU8.Own ok base w' E v' (xs ++ byt s)) → Below base w w' → (∀ k, k < w.heap.size → some k ≠ v.ownBlock → w'.heap[k]? = w.heap[k]?) →
      (v'.ownBlock = v.ownBlock ∨ ∃ k, v'.ownBlock = some k ∧ w.heap.size ≤ k) → K (a.put op.dst v') w') :
    if Region.wanted op (yielded ops a.tmps) = true then op.wp P a w K Q else X := by
  rw [if_pos (by simp [Region.wanted, hgd])]
  exact wp_app_str sl x T U ho hT hU hinfo s hs hx h hbase hlen k
end

end Go.Proofs.YtdkeflhgengblaaDoor
namespace Go.Proofs.YtdkeflhgengblaaDoor
open Go.RowKit

/-- Cells that are loaded whole. -/
def ldAgg (a : Addr) (n : Nat) : Sem (Array Value) := loadCells a n
theorem ld16 (a : Addr) : loadCellsFrom a 0 16 #[] = ldAgg a 16 := rfl
theorem ld17 (a : Addr) : loadCellsFrom a 0 17 #[] = ldAgg a 17 := rfl
theorem ld32 (a : Addr) : loadCellsFrom a 0 32 #[] = ldAgg a 32 := rfl
theorem ld36 (a : Addr) : loadCellsFrom a 0 36 #[] = ldAgg a 36 := rfl
/-- The cells from a place on. -/
def agg? (w : World) (a : Addr) (n : Nat) : Option (Array Value) := if ∀ j, j < n → (w.cell? (a.add j)).isSome then some ((List.range n).map fun j => (w.cell? (a.add j)).getD undef).toArray else none
/-- A part of a row. -/
def part? (C : Array Value) (o n : Nat) : Option (Array Value) := if o + n ≤ C.size then some (C.extract o (o + n)) else none
/-- A row in place of a part. -/
def splice (C : Array Value) (o : Nat) (c : Array Value) : Array Value := (C.toList.take o ++ c.toList ++ C.toList.drop (o + c.size)).toArray
/-- A block's cells, of one that nothing freezes. -/
def row? (w : World) (g : Nat) : Option (Array Value) := match w.heap[g]? with | some (.cells C _ (0, 0)) => some C | _ => none
theorem splice_size (C c : Array Value) (o : Nat) (h : o + c.size ≤ C.size) : (splice C o c).size = C.size := by simp [splice]; omega
theorem part_self (C : Array Value) (n : Nat) (h : C.size = n) : part? C 0 n = some C := by subst h; simp [part?]

theorem run_ldAgg {P : Program} (w : World) (a : Addr) (n : Nat) (h : (agg? w a n).isSome = true) : (ldAgg a n).run P w = .ok ((agg? w a n).getD #[]) w := by
  unfold agg? at h ⊢
  split at h
  · rename_i hc
    rw [if_pos hc, ldAgg, run_loadCells w a n (fun j => (w.cell? (a.add j)).getD undef) (fun j hj => by
      obtain ⟨v, hv⟩ := Option.isSome_iff_exists.1 (hc j hj)
      simp [hv])]
    rfl
  · cases h
theorem add_lit' (b o k : Nat) : (⟨b, o, none⟩ : Addr).add k = ⟨b, o + k, none⟩ := by
  unfold Addr.add
  split <;> simp_all
theorem agg_of_row {w : World} {g : Nat} {C : Array Value} {t : TypeId} {fr : Nat × Nat} (h : w.heap[g]? = some (.cells C t fr)) (o n : Nat) (h0 : 0 < n) : agg? w ⟨g, o, none⟩ n = part? C o n := by
  unfold agg? part?
  have hc : ∀ j, w.cell? ((⟨g, o, none⟩ : Addr).add j) = C[o + j]? := fun j => by rw [add_lit', cell_of_row w _ _ _ _ _ h]
  by_cases hl : o + n ≤ C.size
  · rw [if_pos hl, if_pos (fun j hj => by rw [hc, Array.getElem?_eq_getElem (by omega)]; rfl)]
    congr 1
    apply Array.ext
    · simp; omega
    · intro i h1 h2
      simp only [List.size_toArray, List.length_map, List.length_range] at h1
      simp only [List.getElem_toArray, List.getElem_map, List.getElem_range, hc, Array.getElem_extract]
      rw [Array.getElem?_eq_getElem (by omega)]
      rfl
  · rw [if_neg hl]
    split
    · rename_i hj
      have := hj (n - 1) (by omega)
      rw [hc, Array.getElem?_eq_none (by omega)] at this
      cases this
    · rfl
theorem agg_same {w w' : World} {b o n : Nat} (h : ∀ j, w'.cell? ⟨b, o + j, none⟩ = w.cell? ⟨b, o + j, none⟩) : agg? w' ⟨b, o, none⟩ n = agg? w ⟨b, o, none⟩ n := by
  unfold agg?
  simp only [add_lit', h]
theorem agg_block {w w' : World} {b o n : Nat} (h : w'.heap[b]? = w.heap[b]?) : agg? w' ⟨b, o, none⟩ n = agg? w ⟨b, o, none⟩ n := agg_same fun j => World.cell?_of_block (a := ⟨b, o + j, none⟩) h
theorem agg_range {w : World} {b o : Nat} {cs : List Value} (h : w.rangeAt b o cs) (n : Nat) (hn : cs.length = n) : agg? w ⟨b, o, none⟩ n = some cs.toArray := by
  subst hn
  have hc : ∀ j (hj : j < cs.length), w.cell? ((⟨b, o, none⟩ : Addr).add j) = some cs[j] := fun j hj => by rw [add_lit']; exact h j _ (List.getElem?_eq_getElem hj)
  unfold agg?
  rw [if_pos (fun j hj => by rw [hc j hj]; rfl)]
  congr 1
  apply Array.ext
  · simp
  · intro i h1 h2
    simp only [List.size_toArray, List.length_map, List.length_range] at h1
    simp only [List.getElem_toArray, List.getElem_map, List.getElem_range, hc i h1]
    rfl

section
variable (w : World) (o : Obj) (n i k : Nat) (C : Array Value) (t : TypeId)
theorem agg_alloc_at (hn : n = w.heap.size) (h0 : 0 < k) : agg? (w.alloc (.cells C t)) ⟨n, i, none⟩ k = part? C i k := by
  subst hn
  exact agg_of_row (heap_alloc_new _ _) _ _ h0
theorem agg_alloc_past (hn : n < w.heap.size) : agg? (w.alloc o) ⟨n, i, none⟩ k = agg? w ⟨n, i, none⟩ k := agg_block (Below.heap_alloc w o n hn)
theorem agg_drew : agg? w.drew ⟨n, i, none⟩ k = agg? w ⟨n, i, none⟩ k := rfl
theorem agg_setCell (a : Addr) (v : Value) (hn : ¬ n = a.block) : agg? (w.setCell a v) ⟨n, i, none⟩ k = agg? w ⟨n, i, none⟩ k := agg_block (Below.heap_setCell w a v n hn)
theorem row_alloc_at (hn : n = w.heap.size) : row? (w.alloc (.cells C t)) n = some C := by
  subst hn
  simp only [row?, heap_alloc_new]
theorem row_alloc_past (hn : n < w.heap.size) : row? (w.alloc o) n = row? w n := by simp only [row?, Below.heap_alloc w o n hn]
theorem row_drew : row? w.drew n = row? w n := rfl
theorem setRow_alloc_at (c : Array Value) (hn : n = w.heap.size) : (w.alloc (.cells C t)).setRow n c = w.alloc (.cells c t) := by
  subst hn
  simp only [World.setRow, World.alloc]
  congr 1
  apply Array.ext_getElem?
  intro i
  rw [Array.getElem?_modify]
  by_cases h : w.heap.size = i
  · subst h
    simp
  · have h' : ¬ i = w.heap.size := fun e => h e.symm
    simp [h, h', Array.getElem?_push]
theorem setRow_alloc_past (c : Array Value) (hn : n < w.heap.size) : (w.alloc o).setRow n c = (w.setRow n c).alloc o := by
  simp only [World.setRow, World.alloc]
  congr 1
  apply Array.ext_getElem?
  intro i
  rw [Array.getElem?_modify]
  simp only [Array.getElem?_push, Array.size_modify, Array.getElem?_modify]
  by_cases h : n = i
  · subst h
    have : ¬ n = w.heap.size := by omega
    simp [this]
  · simp [h]
theorem setRow_drew (c : Array Value) : w.drew.setRow n c = (w.setRow n c).drew := rfl
theorem size_setRow (c : Array Value) : (w.setRow n c).heap.size = w.heap.size := by simp [World.setRow]
theorem heap_setRow_far (c : Array Value) {m : Nat} (h : ¬ m = n) : (w.setRow n c).heap[m]? = w.heap[m]? := by
  simp only [World.setRow]
  rw [Array.getElem?_modify, if_neg (fun e => h e.symm)]
end
theorem bsetRow {B : Nat} {w w' : World} (h : Below B w w') {g : Nat} (hg : B ≤ g) (c : Array Value) : Below B w (w'.setRow g c) :=
  h.trans ⟨rfl, rfl, rfl, by rw [size_setRow]; exact Nat.le_refl _, fun k hk => heap_setRow_far _ _ _ (by omega)⟩

theorem below1 (w : World) (o : Obj) : Below w.heap.size w (w.alloc o) := (Below.refl _ _).alloc (Nat.le_refl _) _
theorem below2 (w : World) (o p : Obj) : Below w.heap.size w ((w.alloc o).alloc p) := (below1 w o).alloc (by simp) _
theorem below3 (w : World) (o p q : Obj) : Below w.heap.size w (((w.alloc o).alloc p).alloc q) := (below2 w o p).alloc (by simp only [World.size_alloc]; omega) _
/-- Two stretches of a walk, one behind the other. -/
theorem bnext {w w1 w2 : World} (h : Below w.heap.size w w1) (k : Below w1.heap.size w1 w2) : Below w.heap.size w w2 := h.trans (k.mono h.size)
theorem agg_setRow_at (w : World) (n i k : Nat) (c : Array Value) (h : (row? w n).isSome = true) (h0 : 0 < k) : agg? (w.setRow n c) ⟨n, i, none⟩ k = part? c i k := by
  unfold row? at h
  split at h
  · rename_i C t hg
    exact agg_of_row (setRow_heap w n C c t _ hg) _ _ h0
  · cases h
theorem agg_setRow_far (w : World) (m n i k : Nat) (c : Array Value) (h : ¬ m = n) : agg? (w.setRow n c) ⟨m, i, none⟩ k = agg? w ⟨m, i, none⟩ k := agg_block (heap_setRow_far _ _ _ h)
theorem cell_setRow_at (w : World) (n i : Nat) (c : Array Value) (h : (row? w n).isSome = true) : (w.setRow n c).cell? ⟨n, i, none⟩ = c[i]? := by
  unfold row? at h
  split at h
  · rename_i C t hg
    exact cell_of_row _ _ _ _ _ _ (setRow_heap w n C c t _ hg)
  · cases h
theorem cell_setRow_far (w : World) (m n i : Nat) (c : Array Value) (h : ¬ m = n) : (w.setRow n c).cell? ⟨m, i, none⟩ = w.cell? ⟨m, i, none⟩ := World.cell?_of_block (a := ⟨m, i, none⟩) (heap_setRow_far _ _ _ h)
theorem row_setRow_far (w : World) (m n : Nat) (c : Array Value) (h : ¬ m = n) : row? (w.setRow n c) m = row? w m := by simp only [row?, heap_setRow_far _ _ _ h]
theorem row_of {w : World} {n : Nat} {C : Array Value} {t : TypeId} (h : w.heap[n]? = some (.cells C t (0, 0))) : row? w n = some C := by simp only [row?, h]
def oneAll (c : Array Value) : Bool := c.all (·.oneCell')
theorem run_storeAgg {P : Program} (w : World) (g o : Nat) (c : Array Value) (hr : (row? w g).isSome = true) (hs : o + c.size ≤ ((row? w g).getD #[]).size) (h1 : oneAll c = true) :
    (storeCells ⟨g, o, none⟩ c.toList 0).run P w = .ok () (w.setRow g (splice ((row? w g).getD #[]) o c)) := by
  unfold row? at hr hs ⊢
  split at hr
  · rename_i C t h
    simp only [h, Option.getD_some] at hs ⊢
    have := run_storeCells_at (P := P) g o t c.toList 0 C w h (by simpa using hs) (fun v hv => (Array.all_eq_true_iff_forall_mem.1 h1) v (by simpa using hv))
    simpa [splice] using this
  · cases hr

theorem one_int (k : IntKind) (n : Int) : (Value.int k n).oneCell' = true := rfl
theorem one_str (s : ByteArray) : (Value.string s).oneCell' = true := rfl
theorem one_bool (b : Bool) : (Value.bool b).oneCell' = true := rfl
theorem one_slice (a : Option Addr) (n c : Nat) : (Value.slice a n c).oneCell' = true := rfl
/-- 32 bytes. -/
structure Tg where
  l : List UInt8
  len : l.length = 32
  deriving DecidableEq
/-- A tag's cells. -/
def tgC (t : Tg) : Array Value := (t.l.map bv).toArray
theorem tgC_size (t : Tg) : (tgC t).size = 32 := by simp [tgC, t.len]
theorem tgC_one (t : Tg) : oneAll (tgC t) = true := by
  rw [oneAll, Array.all_eq_true_iff_forall_mem]
  intro v hv
  simp [tgC] at hv
  obtain ⟨b, _, rfl⟩ := hv
  rfl
theorem tgC_part (t : Tg) : part? (tgC t) 0 32 = some (tgC t) := part_self _ _ (tgC_size t)
theorem tgC_splice (t u : Tg) : splice (tgC t) 0 (tgC u) = tgC u := by
  have h : List.drop 32 (tgC t).toList = [] := List.drop_eq_nil_of_le (by simp [tgC_size])
  simp [splice, tgC_size, h]
def Tg.zero : Tg := ⟨List.replicate 32 0, by simp⟩
abbrev tgV (t : Tg) : Value := .agg (tgC t)
/-- A token's cells. -/
def tokC (a b c d : Value) (t : Tg) : Array Value := #[a, b, c, d] ++ tgC t
section
variable (a b c d v : Value) (t u : Tg)
theorem tokC_size : (tokC a b c d t).size = 36 := by simp [tokC, tgC_size]
theorem tokC_0 : (tokC a b c d t)[0]? = some a := by simp [tokC, Array.getElem?_append]
theorem tokC_1 : (tokC a b c d t)[1]? = some b := by simp [tokC, Array.getElem?_append]
theorem tokC_2 : (tokC a b c d t)[2]? = some c := by simp [tokC, Array.getElem?_append]
theorem tokC_3 : (tokC a b c d t)[3]? = some d := by simp [tokC, Array.getElem?_append]
theorem tokC_g0 (h : 0 < (tokC a b c d t).size) : (tokC a b c d t)[0]'h = a := by simp [tokC]
theorem tokC_g1 (h : 1 < (tokC a b c d t).size) : (tokC a b c d t)[1]'h = b := by simp [tokC]
theorem tokC_g2 (h : 2 < (tokC a b c d t).size) : (tokC a b c d t)[2]'h = c := by simp [tokC]
theorem tokC_g3 (h : 3 < (tokC a b c d t).size) : (tokC a b c d t)[3]'h = d := by simp [tokC]
theorem tokC_part : part? (tokC a b c d t) 0 36 = some (tokC a b c d t) := part_self _ _ (tokC_size a b c d t)
theorem tokC_tag : part? (tokC a b c d t) 4 32 = some (tgC t) := by
  have h : (tokC a b c d t).size = 36 := tokC_size a b c d t
  unfold part?
  rw [h, if_pos (by decide)]
  congr 1
  apply Array.ext
  · simp [h, tgC_size]
  · intro i h1 h2
    simp [tokC]
theorem tokC_set0 : (tokC a b c d t).setIfInBounds 0 v = tokC v b c d t := by
  apply Array.ext
  · simp [tokC]
  · intro i h1 h2
    rw [Array.getElem_setIfInBounds]
    rcases i with _ | _ | _ | _ | i <;> simp [tokC]
    all_goals (rw [tokC_size] at h2 ⊢; exact h2)
theorem tokC_set1 : (tokC a b c d t).setIfInBounds 1 v = tokC a v c d t := by
  apply Array.ext
  · simp [tokC]
  · intro i h1 h2
    rw [Array.getElem_setIfInBounds]
    rcases i with _ | _ | _ | _ | i <;> simp [tokC]
    all_goals (rw [tokC_size] at h2 ⊢; exact h2)
theorem tokC_set2 : (tokC a b c d t).setIfInBounds 2 v = tokC a b v d t := by
  apply Array.ext
  · simp [tokC]
  · intro i h1 h2
    rw [Array.getElem_setIfInBounds]
    rcases i with _ | _ | _ | _ | i <;> simp [tokC]
    all_goals (rw [tokC_size] at h2 ⊢; exact h2)
theorem tokC_set3 : (tokC a b c d t).setIfInBounds 3 v = tokC a b c v t := by
  apply Array.ext
  · simp [tokC]
  · intro i h1 h2
    rw [Array.getElem_setIfInBounds]
    rcases i with _ | _ | _ | _ | i <;> simp [tokC]
    all_goals (rw [tokC_size] at h2 ⊢; exact h2)
theorem tokC_splice : splice (tokC a b c d t) 4 (tgC u) = tokC a b c d u := by
  have h : (tokC a b c d t).size = 36 := tokC_size a b c d t
  simp [splice, tokC, tgC_size]
theorem tokC_splice0 (C : Array Value) (h : C.size = 36) : splice C 0 (tokC a b c d t) = tokC a b c d t := by
  have h' : List.drop 36 C.toList = [] := List.drop_eq_nil_of_le (by simp [h])
  simp [splice, tokC_size, h']
theorem tgC_splice_any (C : Array Value) (h : C.size = 32) : splice C 0 (tgC u) = tgC u := by
  have h' : List.drop 32 C.toList = [] := List.drop_eq_nil_of_le (by simp [h])
  simp [splice, tgC_size, h']
theorem bv0 : bv 0 = .int .u8 0 := rfl
theorem zero_tg : (#[.int .u8 0, .int .u8 0, .int .u8 0, .int .u8 0, .int .u8 0, .int .u8 0, .int .u8 0, .int .u8 0, .int .u8 0, .int .u8 0, .int .u8 0, .int .u8 0, .int .u8 0, .int .u8 0, .int .u8 0, .int .u8 0, .int .u8 0, .int .u8 0, .int .u8 0, .int .u8 0, .int .u8 0, .int .u8 0, .int .u8 0, .int .u8 0, .int .u8 0, .int .u8 0, .int .u8 0, .int .u8 0, .int .u8 0, .int .u8 0, .int .u8 0, .int .u8 0] : Array Value) = tgC Tg.zero := by
  simp only [tgC, Tg.zero, List.replicate, List.map, bv0]
theorem zero_tok : (#[a, b, c, d, .int .u8 0, .int .u8 0, .int .u8 0, .int .u8 0, .int .u8 0, .int .u8 0, .int .u8 0, .int .u8 0, .int .u8 0, .int .u8 0, .int .u8 0, .int .u8 0, .int .u8 0, .int .u8 0, .int .u8 0, .int .u8 0, .int .u8 0, .int .u8 0, .int .u8 0, .int .u8 0, .int .u8 0, .int .u8 0, .int .u8 0, .int .u8 0, .int .u8 0, .int .u8 0, .int .u8 0, .int .u8 0, .int .u8 0, .int .u8 0, .int .u8 0, .int .u8 0] : Array Value) = tokC a b c d Tg.zero := by
  simp only [tokC, tgC, Tg.zero, List.replicate, List.map, bv0, List.append_toArray, List.cons_append, List.nil_append]
theorem tokC_one (ha : a.oneCell' = true) (hb : b.oneCell' = true) (hc : c.oneCell' = true) (hd : d.oneCell' = true) : oneAll (tokC a b c d t) = true := by
  rw [oneAll, Array.all_eq_true_iff_forall_mem]
  intro x hx
  simp [tokC] at hx
  rcases hx with (rfl | rfl | rfl | rfl) | hx
  · exact ha
  · exact hb
  · exact hc
  · exact hd
  · exact (Array.all_eq_true_iff_forall_mem.1 (tgC_one t)) x hx
theorem tokC_all (k : IntKind) (n : Int) (s : ByteArray) (A : Option Addr) (l m : Nat) (q : Bool) : oneAll (tokC (.int k n) (.string s) (.slice A l m) (.bool q) t) = true := tokC_one _ _ _ _ _ rfl rfl rfl rfl
theorem tokC_ne : (tokC a b c d t = #[]) = False := eq_false fun h => by
  have := congrArg Array.size h
  rw [tokC_size] at this
  cases this
theorem tgC_ne : (tgC t = #[]) = False := eq_false fun h => by
  have := congrArg Array.size h
  rw [tgC_size] at this
  cases this
end
end Go.Proofs.YtdkeflhgengblaaDoor
namespace Go.Proofs.YtdkeflhgengblaaDoor
open Go.RowKit

theorem u8_info : (Tryd.prog.info? 5).map (fun i => (i.zero, i.size, i.bytes)) = some (some (.int .u8 0), 1, 1) := by kernel_rfl

/-- A number's bytes. -/
def vput (n : Nat) : List UInt8 := if n < 128 then [UInt8.ofNat n] else UInt8.ofNat (n % 128 + 128) :: vput (n / 128)
termination_by n
decreasing_by omega

theorem c_clip (A : Option Addr) (n c : Nat) (w : World) (hc : n ≤ c) (_hm : c ≤ maxLen) :
    Calls Tryd.prog 123 #[.slice A n c] w fun e w' => e = .returned (.slice A n n) ∧ w = w' := by
  go_enter Tryd.func123, Tryd.ntmps123
  go_wp2
  go_ret
  exact ⟨rfl, rfl⟩

theorem vput_lt {n : Nat} (h : n < 128) : vput n = [UInt8.ofNat n] := by rw [vput, if_pos h]
theorem vput_ge {n : Nat} (h : ¬ n < 128) : vput n = UInt8.ofNat (n % 128 + 128) :: vput (n / 128) := by rw [vput, if_neg h]
theorem bv_ofNat {n : Nat} (h : n < 256) : bv (UInt8.ofNat n) = .int .u8 (n : Int) := by
  unfold bv
  simp [Nat.mod_eq_of_lt h]
theorem kU8_ofNat (ok : Nat → Prop) (w : World) {n : Nat} (h : n < 256) {i : Int} (hi : i = n) : kU8.K ok w (UInt8.ofNat n) [.int .u8 i] := by
  subst hi
  exact ⟨by rw [bv_ofNat h], trivial⟩
theorem vput_len : ∀ (k n : Nat), n < 128 ^ (k + 1) → (vput n).length ≤ k + 1
  | 0, n, h => by rw [vput_lt (by omega)]; simp
  | k + 1, n, h => by
    by_cases hn : n < 128
    · rw [vput_lt hn]; simp
    · rw [vput_ge hn]
      have := vput_len k (n / 128) (Nat.div_lt_of_lt_mul (by rw [Nat.pow_succ] at h; omega))
      simp; omega
theorem vput_pos (n : Nat) : 0 < (vput n).length := by
  by_cases h : n < 128
  · rw [vput_lt h]; simp
  · rw [vput_ge h]; simp
theorem or128 : ∀ x : Fin 256, bits .or .u8 (x.val : Int) 128 = ((x.val % 128 + 128 : Nat) : Int) := by decide +kernel
theorem or128_nat (m : Nat) : bits .or .u8 ((m : Int) % 256) 128 = ((m % 128 + 128 : Nat) : Int) := by
  have h := or128 ⟨m % 256, by omega⟩
  simp only at h
  rw [show ((m : Int) % 256) = ((m % 256 : Nat) : Int) from by omega, h]
  congr 1
  omega
theorem vput_len10 {n : Nat} (h : n < 18446744073709551616) : (vput n).length ≤ 10 := vput_len 9 n (by omega)

set_option maxRecDepth 100000 in
set_option maxHeartbeats 400000 in
theorem c_vput (A : Option Addr) (n c : Nat) (xs : List UInt8) (x : Nat) (i : Int) (ok : Nat → Prop) (w : World) (hi : i = (x : Int)) (hR : kU8.Row ok w A n c xs) (hn : n ≤ 1099511627777) (hx : x < 18446744073709551616) :
    Calls Tryd.prog 115 #[.slice A n c, .int .u64 i] w fun e w' => ∃ v, e = .returned v ∧ kU8.Own (fun _ => True) w.heap.size w' 5 v (xs ++ vput x) ∧ Below w.heap.size w w' := by
  subst hi
  have HR := hide hR
  have HX := hide hx
  have hc : n ≤ c := hR.2.1
  have hm : c ≤ maxLen := hR.2.2.1
  have HN := hide hn
  clear hR hx hn
  go_enter Tryd.func115, Tryd.ntmps115
  go_wp2_with (go_at_call 123; refine (c_clip A n c _ hc hm).mono ?_; rintro e w' ⟨rfl, rfl⟩)
  have happ : kU8.App (fun _ => True) w.heap.size w 5 (.slice A n n) xs := by
    have hR := HR.out
    have hl := hR.1
    subst hl
    exact .inr ⟨A, rfl, hR.1, Nat.le_refl _, by have := HN.out; simp only [maxLen]; omega, fun h => let ⟨b, o, e, hb, hlt, hcc⟩ := hR.2.2.2 h; ⟨b, o, e, ⟨trivial, hlt⟩, hlt, fun i x hx => let ⟨cs, h1, h2⟩ := hcc i x hx; ⟨cs, h1, h2⟩⟩⟩
  go_loopw [0, 1] (fun b i wr => ∃ (m : Nat) (pre : List UInt8), i = .int .u64 (m : Int) ∧ Hid (kU8.App (fun _ => True) w.heap.size wr 5 b (xs ++ pre)) ∧ Hid (pre ++ vput m = vput x) ∧ Hid (m < 18446744073709551616) ∧ pre.length ≤ 10 ∧ Below w.heap.size w wr) (fun _ i _ => (intOf i).toNat)
  case atStart => exact ⟨x, [], rfl, hide (by simpa using happ), hide rfl, HX, by simp, Below.refl _ _⟩
  case round =>
    obtain ⟨m, pre, rfl, Happ, Hpre, Hm, hl, hb⟩ := hrel
    have hbs := hb.size
    have hlen : (xs ++ pre).length + 1 ≤ 1099511627788 := by
      have := HR.out.1; have := HN.out; simp only [List.length_append]; omega
    have HL := hide hlen
    clear hlen
    by_cases hlt : m < 128
    · go_wp2_with (at_builtin; go_must (refine wpList_app (d := kU8) (ys := [UInt8.ofNat m]) rfl _ _ _ rfl Tryd.underlying22 u8_info rfl (by decide) 1 rfl rfl (Happ.out.alloc hbs _) (Kd.Src.new ?_ _ rfl _ rfl) ?_ ?_ ?_ ?_))
      · exact kU8_ofNat _ _ (by omega) rfl
      · simp; omega
      · have := HL.out; simp only [maxLen]; omega
      · have := HL.out; omega
      · intro v1 w1 _ h2 h3 _ _
        have H2 := hide h2
        have H3 := hide h3
        clear h2 h3
        go_wp2
        go_ret
        refine ⟨_, rfl, ?_, (hb.alloc hbs _).trans H3.out⟩
        have := H2.out
        rw [← Hpre.out, vput_lt hlt]
        exact this
    · go_wp2_with (at_builtin; go_must (refine wpList_app (d := kU8) (ys := [UInt8.ofNat (m % 128 + 128)]) rfl _ _ _ rfl Tryd.underlying22 u8_info rfl (by decide) 1 rfl rfl (Happ.out.alloc hbs _) (Kd.Src.new ?_ _ rfl _ rfl) ?_ ?_ ?_ ?_))
      · simpa using kU8_ofNat _ _ (n := m % 128 + 128) (by omega) (or128_nat m)
      · simp; omega
      · have := HL.out; simp only [maxLen]; omega
      · have := HL.out; omega
      · intro v1 w1 h1 _ h3 _ _
        have H1 := hide h1
        have H3 := hide h3
        clear h1 h3
        go_wp2
        go_roundw
        case rel =>
          have e := Hpre.out
          rw [vput_ge hlt] at e
          have hl2 := congrArg List.length e
          have hl3 := vput_len10 HX.out
          have hl4 := vput_len10 (show m / 128 < 18446744073709551616 by have := Hm.out; omega)
          have hl5 : 0 < (vput (m / 128)).length := by
            by_cases h : m / 128 < 128
            · rw [vput_lt h]; simp
            · rw [vput_ge h]; simp
          simp only [List.length_append, List.length_cons] at hl2
          refine ⟨m / 128, pre ++ [UInt8.ofNat (m % 128) + 128], by simp, H1, hide ?_, hide (by have := Hm.out; omega), by simp only [List.length_append, List.length_cons, List.length_nil]; omega, (hb.alloc hbs _).trans H3.out⟩
          simpa using e
        case measure => simp [intOf]; omega

/-- The number with which bytes begin, and how many these are; 0: there is none. -/
def vgo (i acc : Nat) : List UInt8 → Nat × Nat
  | [] => (0, 0)
  | c :: r => if 10 ≤ i then (0, 0) else if i = 9 ∧ 1 < c.toNat then (0, 0) else
      if c.toNat < 128 then (if 0 < i ∧ c.toNat = 0 then (0, 0) else (acc + c.toNat * 128 ^ i, i + 1)) else vgo (i + 1) (acc + (c.toNat % 128) * 128 ^ i) r
def vget (l : List UInt8) : Nat × Nat := vgo 0 0 l

theorem vgo_a {j acc : Nat} {x : UInt8} {r : List UInt8} (h9 : j = 9) (h1 : 1 < x.toNat) : vgo j acc (x :: r) = (0, 0) := by
  rw [vgo, if_neg (by omega), if_pos ⟨h9, h1⟩]
theorem vgo_b {j acc : Nat} {x : UInt8} {r : List UInt8} (hj : j < 10) (h9 : ¬ (j = 9 ∧ 1 < x.toNat)) (h1 : x.toNat < 128) (h2 : 0 < j) (h3 : x.toNat = 0) : vgo j acc (x :: r) = (0, 0) := by
  rw [vgo, if_neg (by omega), if_neg h9, if_pos h1, if_pos ⟨h2, h3⟩]
theorem vgo_c {j acc : Nat} {x : UInt8} {r : List UInt8} (hj : j < 10) (h9 : ¬ (j = 9 ∧ 1 < x.toNat)) (h1 : x.toNat < 128) (h2 : ¬ (0 < j ∧ x.toNat = 0)) : vgo j acc (x :: r) = (acc + x.toNat * 128 ^ j, j + 1) := by
  rw [vgo, if_neg (by omega), if_neg h9, if_pos h1, if_neg h2]
theorem vgo_d {j acc : Nat} {x : UInt8} {r : List UInt8} (hj : j < 10) (h9 : ¬ (j = 9 ∧ 1 < x.toNat)) (h1 : ¬ x.toNat < 128) : vgo j acc (x :: r) = vgo (j + 1) (acc + (x.toNat % 128) * 128 ^ j) r := by
  rw [vgo, if_neg (by omega), if_neg h9, if_neg h1]
theorem pow_le19 {j : Nat} (hj : j < 10) {y : Nat} (hy : y < 128) (h9 : j = 9 → y ≤ 1) : y * 128 ^ j < 18446744073709551616 ∧ 128 ^ j ≤ 9223372036854775808 := by
  match j, hj with
  | 0, _ => omega
  | 1, _ => omega
  | 2, _ => omega
  | 3, _ => omega
  | 4, _ => omega
  | 5, _ => omega
  | 6, _ => omega
  | 7, _ => omega
  | 8, _ => omega
  | 9, _ => have := h9 rfl; omega
theorem or_part {j acc y : Nat} (hj : j < 10) (ha : acc < 128 ^ j) (hy : y < 128) (h9 : j = 9 → y ≤ 1) : bits .or .u64 (acc : Int) ((y * 128 ^ j : Nat) : Int) = ((acc + y * 128 ^ j : Nat) : Int) := by
  obtain ⟨h1, h2⟩ := pow_le19 hj hy h9
  rw [u64_or_nat _ _ (by omega) h1]
  congr 1
  have e : 128 ^ j = 2 ^ (7 * j) := by rw [show (128 : Nat) = 2 ^ 7 from rfl, ← Nat.pow_mul]
  rw [e] at ha ⊢
  have := Nat.two_pow_add_eq_or_of_lt ha y
  rw [Nat.mul_comm y, Nat.or_comm, Nat.add_comm]
  exact this.symm
theorem or_wrap {j acc x : Nat} (hj : j < 10) (ha : acc < 128 ^ j) (h9 : j = 9 → x % 128 ≤ 1) :
    bits .or .u64 (acc : Int) (IntKind.u64.wrap ((x : Int) % 128 * 2 ^ (7 * j))) = ((acc + x % 128 * 128 ^ j : Nat) : Int) := by
  have hy : x % 128 < 128 := by omega
  obtain ⟨h1, _⟩ := pow_le19 hj hy h9
  have e : (128 : Nat) ^ j = 2 ^ (7 * j) := by rw [show (128 : Nat) = 2 ^ 7 from rfl, ← Nat.pow_mul]
  have e2 : ((x : Int) % 128 * 2 ^ (7 * j)) = ((x % 128 * 128 ^ j : Nat) : Int) := by rw [e]; simp
  rw [e2, IntKind.wrap_u64, show ((x % 128 * 128 ^ j : Nat) : Int) % 18446744073709551616 = ((x % 128 * 128 ^ j : Nat) : Int) from by omega]
  exact or_part hj ha hy h9
theorem ret2 {k l : IntKind} {a b c d : Int} (h1 : a = c) (h2 : b = d) : Ending.returned (.tuple #[.int k a, .int l b]) = .returned (.tuple #[.int k c, .int l d]) := by rw [h1, h2]
theorem beq0 {n : Nat} (h : ((n : Int) == 0) = true) : n = 0 := by simpa using h
theorem beq0' {n : Nat} (h : ((n : Int) == 0) = false) : n ≠ 0 := by simpa using h

set_option maxRecDepth 100000 in
set_option maxHeartbeats 400000 in
theorem c_vget (A : Option Addr) (n c : Nat) (xs : List UInt8) (ok : Nat → Prop) (w : World) (hR : kU8.Row ok w A n c xs) :
    Calls Tryd.prog 150 #[.slice A n c] w fun e w' => e = .returned (.tuple #[.int .u64 ((vget xs).1 : Int), .int .i64 ((vget xs).2 : Int)]) ∧ w = w' := by
  have HR := hide hR
  have hc : n ≤ c := hR.2.1
  have hm : c ≤ 9223372036854775807 := hR.2.2.1
  clear hR
  obtain ⟨k, hk⟩ : ∃ k, k = min n 10 := ⟨_, rfl⟩
  have hmin : ∀ ty wx, (Builtin.min_ #[3, 3] ty #[.int .i64 (n : Int), .int .i64 10]).run Tryd.prog wx = .ok (.int .i64 (k : Int)) wx := by
    intro ty wx
    subst hk
    by_cases h : n ≤ 10
    · rw [Nat.min_eq_left h]; simp [Builtin.min_, Builtin.min2]; omega
    · rw [Nat.min_eq_right (by omega)]; simp [Builtin.min_, Builtin.min2]; omega
  have h10 : k ≤ 10 := by omega
  have hkn : k ≤ n := by omega
  have HK := hide hk
  clear hk
  go_enter Tryd.func150, Tryd.ntmps150
  go_wp2
  go_loop [2, 12] (fun a i => ∃ (j acc : Nat), j ≤ k ∧ i = .int .i64 (j : Int) ∧ a = .int .u64 (acc : Int) ∧ Hid (acc < 128 ^ j) ∧ Hid (vgo j acc (xs.drop j) = vget xs)) (fun _ i => k - (intOf i).toNat)
  case atStart => exact ⟨0, 0, by omega, rfl, rfl, hide (by decide), hide rfl⟩
  case round =>
    obtain ⟨j, acc, hj, rfl, rfl, HA, HV⟩ := hrel
    by_cases hlt : j < k
    · have hjx : j < xs.length := by have := HR.out.1; omega
      obtain ⟨x, hxs⟩ : ∃ x, xs[j]? = some x := ⟨_, List.getElem?_eq_getElem hjx⟩
      obtain ⟨b, o, cs, hix, -, -, hK, hra⟩ := (HR.out.take hkn).index (P := Tryd.prog) Tryd.underlying22 (E := 5) (by kernel_rfl) (show (xs.take k)[j]? = some x by rw [List.getElem?_take, if_pos hlt]; exact hxs)
      have hKe := hK.1
      subst hKe
      have hcell := hra 0 _ rfl
      simp only [Nat.add_zero] at hcell
      have hx8 := x.toNat_lt
      clear hra hK hc hm
      have HXS := hide hxs
      clear hxs hjx
      have hd : vget xs = vgo j acc (x :: xs.drop (j + 1)) := by
        have hjx := (List.getElem?_eq_some_iff.1 HXS.out).1
        have hxx := (List.getElem?_eq_some_iff.1 HXS.out).2
        rw [← HV.out, List.drop_eq_getElem_cons hjx, hxx]
      have HD := hide hd
      clear hd
      go_wp2
      · go_ret2
        rw [HD.out, vgo_a (by omega) (by omega)]
        exact ⟨rfl, rfl⟩
      · have hz := beq0 (by assumption)
        go_ret2
        rw [HD.out, vgo_b (by omega) (by omega) (by omega) (by omega) hz]
        exact ⟨rfl, rfl⟩
      · have hz := beq0' (n := x.toNat) (by assumption)
        go_ret2
        obtain rfl : j = 9 := by omega
        rw [HD.out, vgo_c (by omega) (by omega) (by omega) (by omega)]
        refine ⟨ret2 ?_ ?_, rfl⟩
        · have := or_part (j := 9) (by omega) HA.out (y := x.toNat) (by omega) (by omega)
          have e : ((x.toNat : Int) % 128 * 9223372036854775808) = ((x.toNat * 128 ^ 9 : Nat) : Int) := by omega
          exact (congrArg (bits .or .u64 (acc : Int)) e).trans this
        · simp
      · have hz := beq0 (by assumption)
        go_ret2
        rw [HD.out, vgo_b (by omega) (by omega) (by omega) (by omega) hz]
        exact ⟨rfl, rfl⟩
      · have hz := beq0' (n := x.toNat) (by assumption)
        go_ret2
        rw [HD.out, vgo_c (by omega) (by omega) (by omega) (by omega)]
        refine ⟨ret2 ?_ ?_, rfl⟩
        · rw [or_wrap (by omega) HA.out (by omega), Nat.mod_eq_of_lt (by omega)]
        · simp
      · go_ret2
        rw [HD.out, vgo_c (by omega) (by omega) (by omega) (by omega)]
        refine ⟨ret2 ?_ ?_, rfl⟩
        · rw [or_wrap (by omega) HA.out (by omega), Nat.mod_eq_of_lt (by omega)]
        · simp
      · go_round
        case rel =>
          refine ⟨j + 1, acc + (x.toNat % 128) * 128 ^ j, by omega, by simp, by rw [or_wrap (by omega) HA.out (by omega)], hide ?_, hide ?_⟩
          · have := HA.out
            rw [Nat.pow_succ]
            have : x.toNat % 128 * 128 ^ j ≤ 127 * 128 ^ j := Nat.mul_le_mul_right _ (by omega)
            omega
          · rw [HD.out, vgo_d (by omega) (by omega) (by omega)]
        case measure => simp [intOf]; omega
    · have hjk : j = k := by omega
      subst hjk
      have hd : vget xs = (0, 0) := by
        have hv := HV.out
        have hk := HK.out
        have hl := HR.out.1
        rw [← hv]
        cases hx : xs.drop j with
        | nil => rfl
        | cons y r =>
          have : j < xs.length := by
            rcases Nat.lt_or_ge j xs.length with h | h
            · exact h
            · rw [List.drop_eq_nil_of_le h] at hx; cases hx
          rw [vgo, if_pos (by omega)]
      have HD := hide hd
      clear hd
      go_wp2
      go_ret2
      rw [HD.out]
      exact ⟨rfl, rfl⟩

set_option maxRecDepth 100000 in
set_option maxHeartbeats 400000 in
theorem c_r8bytes : ∀ (k x : Nat) (i : Int) (w : World), i = (x : Int) → x < 128 ^ (k + 1) → x < 18446744073709551616 →
    Calls Tryd.prog 144 #[.int .u64 i] w fun e w' => ∃ v, e = .returned v ∧ kU8.Own (fun _ => True) w.heap.size w' 5 v (vput x) ∧ Below w.heap.size w w' := by
  intro k
  induction k with
  | zero =>
    rintro x _ w rfl hx h64
    have hlt : x < 128 := by omega
    clear hx h64
    go_enter Tryd.func144, Tryd.ntmps144
    go_wp2
    go_ret
    refine ⟨_, rfl, ?_, (Below.refl _ _).alloc (Nat.le_refl _) _⟩
    rw [vput_lt hlt]
    exact Kd.Own.lit (css := [[.int .u8 (x : Int)]]) (.single (kU8_ofNat _ _ (by omega) rfl)) _ rfl 1 rfl (by decide) _ rfl (Nat.le_refl _)
  | succ k ih =>
    rintro x _ w rfl hx h64
    by_cases hlt : x < 128
    · clear hx h64 ih
      go_enter Tryd.func144, Tryd.ntmps144
      go_wp2
      go_ret
      refine ⟨_, rfl, ?_, (Below.refl _ _).alloc (Nat.le_refl _) _⟩
      rw [vput_lt hlt]
      exact Kd.Own.lit (css := [[.int .u8 (x : Int)]]) (.single (kU8_ofNat _ _ (by omega) rfl)) _ rfl 1 rfl (by decide) _ rfl (Nat.le_refl _)
    · have IH := hide (fun i (hi : i = ((x / 128 : Nat) : Int)) => ih (x / 128) i (w.alloc (.cells #[.int .u8 ((x : Int) % 128 + 128)] 5)) hi (by rw [Nat.pow_succ] at hx; omega) (by omega))
      have HX := hide h64
      have hown := Kd.Own.lit (d := kU8) (ok := fun _ => True) (base := w.heap.size) (w := w) (E := 5) (css := [[.int .u8 ((x : Int) % 128 + 128)]]) (.single (kU8_ofNat _ _ (n := x % 128 + 128) (by omega) (by omega))) #[.int .u8 ((x : Int) % 128 + 128)] rfl 1 rfl (by decide) _ rfl (Nat.le_refl _)
      have HO := hide hown
      clear hx h64 ih hown
      go_enter Tryd.func144, Tryd.ntmps144
      go_wp2_with fail
      refine (IH.out _ (by rw [IntKind.wrap_u64]; have := HX.out; omega)).mono ?_
      rintro e w1 ⟨v, rfl, h1, h2⟩
      obtain ⟨A1, c1, rfl, hr⟩ := h1.row
      have hb1 : Below w.heap.size w w1 := ((Below.refl _ _).alloc (Nat.le_refl _) _).trans (h2.mono (by simp))
      have HR := hide hr
      have HO2 := hide (HO.out.below h2)
      have hbs : w.heap.size + 1 ≤ w1.heap.size := by simpa using h2.size
      have HL := hide (vput_len10 (n := x / 128) (by have := HX.out; omega))
      have Hne := hide h1.base_le
      clear h1 h2 hr
      go_wp2_with (at_builtin; go_must (refine wpList_app (d := kU8) rfl _ _ _ rfl Tryd.underlying22 u8_info rfl (by decide) c1 rfl rfl (.inl HO2.out) (src8 HR.out.src) ?_ ?_ ?_ ?_))
      · omega
      · have := HL.out; simp only [maxLen, List.length_cons, List.length_nil]; omega
      · have := HL.out; simp only [List.length_cons, List.length_nil]; omega
      · intro v1 w2 _ h2 h3 _ _
        have H2 := hide h2
        have H3 := hide h3
        clear h2 h3
        go_wp2
        go_ret
        refine ⟨_, rfl, ?_, hb1.trans H3.out⟩
        rw [vput_ge hlt]
        have := H2.out (.inl (vput_pos _))
        simpa using this
end Go.Proofs.YtdkeflhgengblaaDoor
namespace Go.Proofs.YtdkeflhgengblaaDoor
/-- Bits, round about: n places lower. -/
def rotr (x n : UInt32) : UInt32 := x <<< (32 - n) ||| x >>> n
def great0 (x : UInt32) : UInt32 := rotr x 2 ^^^ rotr x 13 ^^^ rotr x 22
def great1 (x : UInt32) : UInt32 := rotr x 6 ^^^ rotr x 11 ^^^ rotr x 25
def small0 (x : UInt32) : UInt32 := rotr x 7 ^^^ rotr x 18 ^^^ x >>> 3
def small1 (x : UInt32) : UInt32 := rotr x 17 ^^^ rotr x 19 ^^^ x >>> 10
def chooseW (x y z : UInt32) : UInt32 := (x &&& y) ^^^ (~~~x &&& z)
def mostW (x y z : UInt32) : UInt32 := (x &&& y) ^^^ (x &&& z) ^^^ (y &&& z)
def primesW : List UInt32 := [
0x428a2f98, 0x71374491, 0xb5c0fbcf, 0xe9b5dba5, 0x3956c25b, 0x59f111f1, 0x923f82a4, 0xab1c5ed5,
0xd807aa98, 0x12835b01, 0x243185be, 0x550c7dc3, 0x72be5d74, 0x80deb1fe, 0x9bdc06a7, 0xc19bf174,
0xe49b69c1, 0xefbe4786, 0x0fc19dc6, 0x240ca1cc, 0x2de92c6f, 0x4a7484aa, 0x5cb0a9dc, 0x76f988da,
0x983e5152, 0xa831c66d, 0xb00327c8, 0xbf597fc7, 0xc6e00bf3, 0xd5a79147, 0x06ca6351, 0x14292967,
0x27b70a85, 0x2e1b2138, 0x4d2c6dfc, 0x53380d13, 0x650a7354, 0x766a0abb, 0x81c2c92e, 0x92722c85,
0xa2bfe8a1, 0xa81a664b, 0xc24b8b70, 0xc76c51a3, 0xd192e819, 0xd6990624, 0xf40e3585, 0x106aa070,
0x19a4c116, 0x1e376c08, 0x2748774c, 0x34b0bcb5, 0x391c0cb3, 0x4ed8aa4a, 0x5b9cca4f, 0x682e6ff3,
0x748f82ee, 0x78a5636f, 0x84c87814, 0x8cc70208, 0x90befffa, 0xa4506ceb, 0xbef9a3f7, 0xc67178f2]
def get4 (l : List UInt8) : UInt32 := (l.getD 0 0).toUInt32 <<< 24 ||| (l.getD 1 0).toUInt32 <<< 16 ||| (l.getD 2 0).toUInt32 <<< 8 ||| (l.getD 3 0).toUInt32
def put4 (x : UInt32) : List UInt8 := [(x >>> 24).toUInt8, (x >>> 16).toUInt8, (x >>> 8).toUInt8, x.toUInt8]
/-- The next word of a schedule. -/
def nextW (b : List UInt8) (w : List UInt32) : UInt32 :=
  if w.length < 16 then get4 (b.drop (4 * w.length)) else small1 (w.getD (w.length - 2) 0) + w.getD (w.length - 7) 0 + small0 (w.getD (w.length - 15) 0) + w.getD (w.length - 16) 0
def schedN (b : List UInt8) : Nat → List UInt32
  | 0 => []
  | n + 1 => schedN b n ++ [nextW b (schedN b n)]
structure S8 where
  (a b c d e f g h : UInt32)
  deriving DecidableEq
def S8.start : S8 := ⟨0x6a09e667, 0xbb67ae85, 0x3c6ef372, 0xa54ff53a, 0x510e527f, 0x9b05688c, 0x1f83d9ab, 0x5be0cd19⟩
def S8.turn (s : S8) (k w : UInt32) : S8 :=
  let t := s.h + great1 s.e + chooseW s.e s.f s.g + k + w
  let u := great0 s.a + mostW s.a s.b s.c
  ⟨t + u, s.a, s.b, s.c, s.d + t, s.e, s.f, s.g⟩
def S8.add (s h : S8) : S8 := ⟨s.a + h.a, s.b + h.b, s.c + h.c, s.d + h.d, s.e + h.e, s.f + h.f, s.g + h.g, s.h + h.h⟩
def turns (s : S8) (w : List UInt32) : Nat → S8
  | 0 => s
  | n + 1 => (turns s w n).turn (primesW.getD n 0) (w.getD n 0)
def compress (h : S8) (b : List UInt8) : S8 := (turns h (schedN b 64) 64).add h
/-- All whole blocks of bytes. -/
def blocks (h : S8) (xs : List UInt8) : S8 := if 64 ≤ xs.length then blocks (compress h (xs.take 64)) (xs.drop 64) else h
  termination_by xs.length
  decreasing_by simp only [List.length_drop]; omega
theorem blocks_lt {h : S8} {xs : List UInt8} (hx : xs.length < 64) : blocks h xs = h := by rw [blocks, if_neg (by omega)]
theorem blocks_ge {h : S8} {xs : List UInt8} (hx : 64 ≤ xs.length) : blocks h xs = blocks (compress h (xs.take 64)) (xs.drop 64) := by rw [blocks, if_pos hx]
theorem blocks_append : ∀ (n : Nat) (h : S8) (xs ys : List UInt8), xs.length = 64 * n → blocks h (xs ++ ys) = blocks (blocks h xs) ys
  | 0, h, xs, ys, hn => by
    obtain rfl : xs = [] := List.eq_nil_of_length_eq_zero (by omega)
    rw [blocks_lt (h := h) (xs := []) (by decide), List.nil_append]
  | n + 1, h, xs, ys, hn => by
    rw [blocks_ge (xs := xs ++ ys) (by rw [List.length_append]; omega), blocks_ge (xs := xs) (by omega), List.take_append_of_le_length (by omega), List.drop_append_of_le_length (by omega)]
    exact blocks_append n _ _ _ (by rw [List.length_drop]; omega)
theorem blocks_one {h : S8} {xs : List UInt8} (hx : xs.length = 64) : blocks h xs = compress h xs := by
  rw [blocks_ge (by omega), List.take_of_length_le (by omega), List.drop_eq_nil_of_le (by omega), blocks_lt (by decide)]
def blocksF : Nat → S8 → List UInt8 → S8
  | 0, h, _ => h
  | n + 1, h, xs => if 64 ≤ xs.length then blocksF n (compress h (xs.take 64)) (xs.drop 64) else h
theorem blocksF_is : ∀ (n : Nat) (h : S8) (xs : List UInt8), xs.length < 64 * n → blocksF n h xs = blocks h xs
  | 0, h, xs, hn => by omega
  | n + 1, h, xs, hn => by
    rw [blocksF]
    split
    · rename_i hx
      rw [blocks_ge hx]
      exact blocksF_is n _ _ (by rw [List.length_drop]; omega)
    · rename_i hx
      rw [blocks_lt (by omega)]
def padN (n : Nat) : List UInt8 := 128 :: List.replicate ((119 - n % 64) % 64) 0 ++ put4 (UInt32.ofNat (n / 536870912)) ++ put4 (UInt32.ofNat (n * 8))
def S8.list (s : S8) : List UInt32 := [s.a, s.b, s.c, s.d, s.e, s.f, s.g, s.h]
def S8.bytes (s : S8) : List UInt8 := s.list.flatMap put4
def sha (xs : List UInt8) : List UInt8 := (blocksF (xs.length / 64 + 3) S8.start (xs ++ padN xs.length)).bytes
theorem padN_len (n : Nat) : (padN n).length = 9 + (119 - n % 64) % 64 := by
  simp only [padN, List.length_append, List.length_cons, List.length_replicate, put4, List.length_nil]; omega
theorem padN_whole (n : Nat) : (n + (padN n).length) % 64 = 0 := by rw [padN_len]; omega
theorem sha_eq (xs : List UInt8) : sha xs = (blocks S8.start (xs ++ padN xs.length)).bytes := by
  rw [sha, blocksF_is]
  rw [List.length_append, padN_len]; omega
theorem put4_len (x : UInt32) : (put4 x).length = 4 := rfl
theorem bytes_len (s : S8) : s.bytes.length = 32 := rfl
theorem sha_len (xs : List UInt8) : (sha xs).length = 32 := rfl
def keyB (key : List UInt8) : List UInt8 := (if 64 < key.length then sha key else key)
def keyX (key : List UInt8) (by_ : UInt8) : List UInt8 := (keyB key ++ List.replicate (64 - (keyB key).length) 0).map (· ^^^ by_)
def mac (key xs : List UInt8) : List UInt8 := sha (keyX key 0x5c ++ sha (keyX key 0x36 ++ xs))

/-! ### the same, each number forced: for the kernel -/
def forceW {α : Type} (x : UInt32) (k : UInt32 → α) : α := Nat.rec (motive := fun _ => α) (k (UInt32.ofNat 0)) (fun m _ => k (UInt32.ofNat (m + 1))) x.toNat
theorem forceW_eq {α : Type} (x : UInt32) (k : UInt32 → α) : forceW x k = k x := by
  have h : ∀ n : Nat, (Nat.rec (motive := fun _ => α) (k (UInt32.ofNat 0)) (fun m _ => k (UInt32.ofNat (m + 1))) n : α) = k (UInt32.ofNat n) := by
    intro n; cases n <;> rfl
  rw [forceW, h, UInt32.ofNat_toNat]
def forceB {α : Type} (x : UInt8) (k : UInt8 → α) : α := Nat.rec (motive := fun _ => α) (k (UInt8.ofNat 0)) (fun m _ => k (UInt8.ofNat (m + 1))) x.toNat
theorem forceB_eq {α : Type} (x : UInt8) (k : UInt8 → α) : forceB x k = k x := by
  have h : ∀ n : Nat, (Nat.rec (motive := fun _ => α) (k (UInt8.ofNat 0)) (fun m _ => k (UInt8.ofNat (m + 1))) n : α) = k (UInt8.ofNat n) := by
    intro n; cases n <;> rfl
  rw [forceB, h, UInt8.ofNat_toNat]
def forceL {α : Type} : List UInt8 → (List UInt8 → α) → α
  | [], k => k []
  | x :: l, k => forceB x fun y => forceL l fun m => k (y :: m)
theorem forceL_eq {α : Type} (l : List UInt8) (k : List UInt8 → α) : forceL l k = k l := by
  induction l generalizing k with
  | nil => rfl
  | cons x l ih => rw [forceL, forceB_eq, ih]
def schedF {α : Type} (b : List UInt8) (k : List UInt32 → α) : Nat → List UInt32 → α
  | 0, w => k w
  | n + 1, w => forceW (nextW b w) fun x => schedF b k n (w ++ [x])
theorem schedF_eq {α : Type} (b : List UInt8) (k : List UInt32 → α) : ∀ n m, schedF b k n (schedN b m) = k (schedN b (m + n))
  | 0, m => rfl
  | n + 1, m => by
    rw [schedF, forceW_eq, show schedN b m ++ [nextW b (schedN b m)] = schedN b (m + 1) from rfl, schedF_eq b k n (m + 1), Nat.add_right_comm, Nat.add_assoc]
def S8.force {α : Type} (s : S8) (k : S8 → α) : α := forceW s.a fun a => forceW s.b fun b => forceW s.c fun c => forceW s.d fun d => forceW s.e fun e => forceW s.f fun f => forceW s.g fun g => forceW s.h fun h => k ⟨a, b, c, d, e, f, g, h⟩
theorem S8.force_eq {α : Type} (s : S8) (k : S8 → α) : s.force k = k s := by simp [S8.force, forceW_eq]
def turnsF {α : Type} (k : S8 → α) : List UInt32 → List UInt32 → S8 → α
  | p :: ps, w :: ws, s => (s.turn p w).force fun s' => turnsF k ps ws s'
  | _, _, s => k s
theorem turnsF_eq {α : Type} (k : S8 → α) (s0 : S8) (w : List UInt32) (hw : w.length = 64) : ∀ n m, n + m = 64 → turnsF k (primesW.drop m) (w.drop m) (turns s0 w m) = k (turns s0 w 64)
  | 0, m, h => by
    obtain rfl : m = 64 := by omega
    rw [List.drop_eq_nil_of_le (by decide)]
    rfl
  | n + 1, m, h => by
    have hp : primesW.length = 64 := by decide
    rw [List.drop_eq_getElem_cons (show m < primesW.length by omega), List.drop_eq_getElem_cons (show m < w.length by omega), turnsF, S8.force_eq]
    have e : (turns s0 w m).turn primesW[m] w[m] = turns s0 w (m + 1) := by
      rw [turns, List.getD_eq_getElem?_getD, List.getD_eq_getElem?_getD, List.getElem?_eq_getElem (show m < primesW.length by omega), List.getElem?_eq_getElem (show m < w.length by omega)]
      rfl
    rw [e]
    exact turnsF_eq k s0 w hw n (m + 1) (by omega)
theorem schedN_len (b : List UInt8) : ∀ n, (schedN b n).length = n
  | 0 => rfl
  | n + 1 => by rw [schedN, List.length_append, schedN_len b n]; rfl
def compressF {α : Type} (h : S8) (b : List UInt8) (k : S8 → α) : α := forceL b fun b => schedF b (fun w => turnsF (fun s => (s.add h).force k) primesW w h) 64 []
theorem compressF_eq {α : Type} (h : S8) (b : List UInt8) (k : S8 → α) : compressF h b k = k (compress h b) := by
  have h1 := schedF_eq b (fun w => turnsF (fun s => (s.add h).force k) primesW w h) 64 0
  have h2 := turnsF_eq (fun s => (s.add h).force k) h (schedN b 64) (schedN_len b 64) 64 0 rfl
  rw [compressF, forceL_eq]
  rw [show schedN b 0 = [] from rfl] at h1
  rw [h1, Nat.zero_add]
  rw [List.drop_zero, List.drop_zero] at h2
  rw [show turns h (schedN b 64) 0 = h from rfl] at h2
  rw [h2, S8.force_eq]
  rfl
def blocksG {α : Type} (k : S8 → α) : Nat → S8 → List UInt8 → α
  | 0, h, _ => k h
  | n + 1, h, xs => if 64 ≤ xs.length then compressF h (xs.take 64) fun h' => blocksG k n h' (xs.drop 64) else k h
theorem blocksG_eq {α : Type} (k : S8 → α) : ∀ n h xs, blocksG k n h xs = k (blocksF n h xs)
  | 0, _, _ => rfl
  | n + 1, h, xs => by
    rw [blocksG, blocksF]
    split
    · rw [compressF_eq, blocksG_eq k n]
    · rfl
def shaF {α : Type} (xs : List UInt8) (k : List UInt8 → α) : α := forceL (xs ++ padN xs.length) fun ys => blocksG (fun s => forceL s.bytes k) (xs.length / 64 + 3) S8.start ys
theorem shaF_eq {α : Type} (xs : List UInt8) (k : List UInt8 → α) : shaF xs k = k (sha xs) := by
  rw [shaF, forceL_eq, blocksG_eq, forceL_eq]
  rfl
def macF {α : Type} (key xs : List UInt8) (k : List UInt8 → α) : α := shaF (keyX key 0x36 ++ xs) fun s => shaF (keyX key 0x5c ++ s) k
theorem macF_eq {α : Type} (key xs : List UInt8) (k : List UInt8 → α) : macF key xs k = k (mac key xs) := by
  rw [macF, shaF_eq, shaF_eq]
  rfl
theorem mac_len (key xs : List UInt8) : (mac key xs).length = 32 := rfl
theorem keyB_le (key : List UInt8) : (keyB key).length ≤ 64 := by
  unfold keyB
  split
  · rw [sha_len]; decide
  · omega
theorem keyX_len (key : List UInt8) (b : UInt8) : (keyX key b).length = 64 := by
  have := keyB_le key
  simp only [keyX, List.length_map, List.length_append, List.length_replicate]; omega
theorem choose_or (x y z : UInt32) : (x &&& y) ||| ((x ^^^ 4294967295) &&& z) = chooseW x y z := by
  rw [chooseW]
  apply UInt32.toBitVec_inj.1
  apply BitVec.eq_of_getLsbD_eq
  intro i hi
  have h : (4294967295#32) = BitVec.allOnes 32 := by decide
  simp [hi]
  rw [h, BitVec.getElem_allOnes]
  cases x.toBitVec[i] <;> cases y.toBitVec[i] <;> cases z.toBitVec[i] <;> rfl
theorem most_or (x y z : UInt32) : ((x &&& y) ||| (x &&& z)) ||| (y &&& z) = mostW x y z := by
  rw [mostW]
  apply UInt32.toBitVec_inj.1
  apply BitVec.eq_of_getLsbD_eq
  intro i hi
  simp [hi]
  cases x.toBitVec[i] <;> cases y.toBitVec[i] <;> cases z.toBitVec[i] <;> rfl
theorem div8 (x : UInt32) : x / (8 : UInt32) = x >>> (3 : UInt32) := by
  apply UInt32.toNat_inj.1
  simp [Nat.shiftRight_eq_div_pow]
theorem div1024 (x : UInt32) : x / (1024 : UInt32) = x >>> (10 : UInt32) := by
  apply UInt32.toNat_inj.1
  simp [Nat.shiftRight_eq_div_pow]
theorem put4_div (x : UInt32) : [(x / 16777216).toUInt8, (x / 65536 % 256).toUInt8, (x / 256 % 256).toUInt8, (x % 256).toUInt8] = put4 x := by
  unfold put4
  congr 1
  · apply UInt8.toNat_inj.1
    simp [Nat.shiftRight_eq_div_pow]
  congr 1
  · apply UInt8.toNat_inj.1
    simp [Nat.shiftRight_eq_div_pow]
  congr 1
  · apply UInt8.toNat_inj.1
    simp [Nat.shiftRight_eq_div_pow]
  congr 1
  apply UInt8.toNat_inj.1
  simp
theorem or_add8 (x : UInt32) (b : UInt8) (h : x.toNat < 16777216) : (x <<< 8 ||| b.toUInt32) = x * 256 + b.toUInt32 := by
  apply UInt32.toNat_inj.1
  have hb : b.toNat < 2 ^ 8 := b.toNat_lt
  simp only [UInt32.toNat_or, UInt32.toNat_shiftLeft, UInt8.toNat_toUInt32, UInt32.toNat_add, UInt32.toNat_mul, UInt32.reduceToNat, Nat.reduceMod]
  rw [Nat.mod_eq_of_lt (a := x.toNat <<< 8) (by rw [Nat.shiftLeft_eq]; omega), ← Nat.shiftLeft_add_eq_or_of_lt hb, Nat.shiftLeft_eq]
  omega
def get4r (b0 b1 b2 b3 : UInt8) : UInt32 := (((0 * 256 + b0.toUInt32) * 256 + b1.toUInt32) * 256 + b2.toUInt32) * 256 + b3.toUInt32
theorem get4r_eq (b0 b1 b2 b3 : UInt8) : get4r b0 b1 b2 b3 = b0.toUInt32 <<< 24 ||| b1.toUInt32 <<< 16 ||| b2.toUInt32 <<< 8 ||| b3.toUInt32 := by
  have h0 : b0.toNat < 2 ^ 8 := b0.toNat_lt
  have h1 : b1.toNat < 2 ^ 8 := b1.toNat_lt
  have h2 : b2.toNat < 2 ^ 8 := b2.toNat_lt
  have h3 : b3.toNat < 2 ^ 8 := b3.toNat_lt
  apply UInt32.toNat_inj.1
  simp only [get4r, UInt32.toNat_or, UInt32.toNat_shiftLeft, UInt8.toNat_toUInt32, UInt32.toNat_add, UInt32.toNat_mul, UInt32.reduceToNat, Nat.reduceMod, Nat.shiftLeft_eq]
  rw [Nat.mod_eq_of_lt (a := b0.toNat * 2 ^ 24) (by omega), Nat.mod_eq_of_lt (a := b1.toNat * 2 ^ 16) (by omega), Nat.mod_eq_of_lt (a := b2.toNat * 2 ^ 8) (by omega)]
  have e1 : b0.toNat * 2 ^ 24 ||| b1.toNat * 2 ^ 16 = b0.toNat * 2 ^ 24 + b1.toNat * 2 ^ 16 := by
    rw [← Nat.shiftLeft_eq b0.toNat 24, ← Nat.shiftLeft_add_eq_or_of_lt (show b1.toNat * 2 ^ 16 < 2 ^ 24 by omega)]
  have e2 : (b0.toNat * 2 ^ 24 + b1.toNat * 2 ^ 16) ||| b2.toNat * 2 ^ 8 = b0.toNat * 2 ^ 24 + b1.toNat * 2 ^ 16 + b2.toNat * 2 ^ 8 := by
    rw [show b0.toNat * 2 ^ 24 + b1.toNat * 2 ^ 16 = (b0.toNat * 2 ^ 8 + b1.toNat) <<< 16 by rw [Nat.shiftLeft_eq]; omega, ← Nat.shiftLeft_add_eq_or_of_lt (show b2.toNat * 2 ^ 8 < 2 ^ 16 by omega)]
  have e3 : (b0.toNat * 2 ^ 24 + b1.toNat * 2 ^ 16 + b2.toNat * 2 ^ 8) ||| b3.toNat = b0.toNat * 2 ^ 24 + b1.toNat * 2 ^ 16 + b2.toNat * 2 ^ 8 + b3.toNat := by
    rw [show b0.toNat * 2 ^ 24 + b1.toNat * 2 ^ 16 + b2.toNat * 2 ^ 8 = (b0.toNat * 2 ^ 16 + b1.toNat * 2 ^ 8 + b2.toNat) <<< 8 by rw [Nat.shiftLeft_eq]; omega, ← Nat.shiftLeft_add_eq_or_of_lt h3]
  rw [e1, e2, e3]
  omega
/-- The eight bytes of a number of bits. -/
theorem bits_put4 (n : Nat) (h : n < 2305843009213693952) : put4 (UInt32.ofNat (n / 536870912)) ++ put4 (UInt32.ofNat (n * 8)) = [7, 6, 5, 4, 3, 2, 1, 0].map fun i => UInt8.ofNat (n * 8 / 256 ^ i) := by
  simp only [put4, List.map_cons, List.map_nil, List.cons_append, List.nil_append]
  congr 1
  · apply UInt8.toNat_inj.1; simp [Nat.shiftRight_eq_div_pow]; omega
  congr 1
  · apply UInt8.toNat_inj.1; simp [Nat.shiftRight_eq_div_pow]; omega
  congr 1
  · apply UInt8.toNat_inj.1; simp [Nat.shiftRight_eq_div_pow]; omega
  congr 1
  · apply UInt8.toNat_inj.1; simp; omega
  congr 1
  · apply UInt8.toNat_inj.1; simp [Nat.shiftRight_eq_div_pow]; omega
  congr 1
  · apply UInt8.toNat_inj.1; simp [Nat.shiftRight_eq_div_pow]; omega
  congr 1
  · apply UInt8.toNat_inj.1; simp [Nat.shiftRight_eq_div_pow]; omega
  congr 1
  apply UInt8.toNat_inj.1; simp
/-- Bytes written: whole blocks are taken, a tail is kept. -/
def Split (xs : List UInt8) (h : S8) (tail : List UInt8) : Prop := ∃ head k, xs = head ++ tail ∧ head.length = 64 * k ∧ h = blocks S8.start head ∧ tail.length < 64
theorem Split.start : Split [] S8.start [] := ⟨[], 0, rfl, rfl, (blocks_lt (by decide)).symm, by decide⟩
theorem Split.len {xs : List UInt8} {h : S8} {tail : List UInt8} (H : Split xs h tail) : tail.length = xs.length % 64 := by
  obtain ⟨head, k, rfl, hk, -, hl⟩ := H
  rw [List.length_append, hk]; omega
theorem Split.more {xs : List UInt8} {h : S8} {tail : List UInt8} (H : Split xs h tail) {c : List UInt8} (hc : tail.length + c.length < 64) : Split (xs ++ c) h (tail ++ c) := by
  obtain ⟨head, k, rfl, hk, hh, hl⟩ := H
  exact ⟨head, k, List.append_assoc _ _ _, hk, hh, by rw [List.length_append]; exact hc⟩
theorem Split.full {xs : List UInt8} {h : S8} {tail : List UInt8} (H : Split xs h tail) {c : List UInt8} (hc : tail.length + c.length = 64) : Split (xs ++ c) (compress h (tail ++ c)) [] := by
  obtain ⟨head, k, rfl, hk, rfl, hl⟩ := H
  have h1 : (tail ++ c).length = 64 := by rw [List.length_append]; exact hc
  refine ⟨head ++ (tail ++ c), k + 1, by simp, by rw [List.length_append, h1]; omega, ?_, by decide⟩
  rw [blocks_append k _ _ _ hk, blocks_one h1]
theorem Split.sum {xs : List UInt8} {h : S8} {tail : List UInt8} (H : Split (xs ++ padN xs.length) h tail) : h.bytes = sha xs := by
  have h1 := H.len
  rw [List.length_append, padN_whole] at h1
  obtain ⟨head, k, e, hk, rfl, hl⟩ := H
  obtain rfl := List.eq_nil_of_length_eq_zero h1
  rw [List.append_nil] at e
  rw [← e, sha_eq]
set_option maxRecDepth 100000 in
theorem alive_mac : (mac [74, 101, 102, 101] [119, 104, 97, 116, 32, 100, 111, 32, 121, 97, 32, 119, 97, 110, 116, 32, 102, 111, 114, 32, 110, 111, 116, 104, 105, 110, 103, 63]).take 4 = [0x5b, 0xdc, 0xc1, 0x46] := by
  have h := macF_eq [74, 101, 102, 101] [119, 104, 97, 116, 32, 100, 111, 32, 121, 97, 32, 119, 97, 110, 116, 32, 102, 111, 114, 32, 110, 111, 116, 104, 105, 110, 103, 63] (fun l => decide (l.take 4 = [0x5b, 0xdc, 0xc1, 0x46]))
  have h' : macF [74, 101, 102, 101] [119, 104, 97, 116, 32, 100, 111, 32, 121, 97, 32, 119, 97, 110, 116, 32, 102, 111, 114, 32, 110, 111, 116, 104, 105, 110, 103, 63] (fun l => decide (l.take 4 = [0x5b, 0xdc, 0xc1, 0x46])) = true := by decide +kernel
  rw [h'] at h
  exact of_decide_eq_true h.symm
end Go.Proofs.YtdkeflhgengblaaDoor
namespace Go.Proofs.YtdkeflhgengblaaDoor
open Go.RowKit
/-- A word. -/
abbrev wv (x : UInt32) : Value := .int .u32 (x.toNat : Int)
theorem u32_lt (x : UInt32) : (x.toNat : Int) < 4294967296 := by have := x.toNat_lt; omega
theorem w_and (x y : UInt32) : bits .and .u32 (x.toNat : Int) (y.toNat : Int) = ((x &&& y).toNat : Int) := u32_and_nat _ _ x.toNat_lt y.toNat_lt
theorem w_or (x y : UInt32) : bits .or .u32 (x.toNat : Int) (y.toNat : Int) = ((x ||| y).toNat : Int) := u32_or_nat _ _ x.toNat_lt y.toNat_lt
theorem w_xor (x y : UInt32) : bits .xor .u32 (x.toNat : Int) (y.toNat : Int) = ((x ^^^ y).toNat : Int) := u32_xor_nat _ _ x.toNat_lt y.toNat_lt
theorem w_not (x : UInt32) : bits .xor .u32 IntKind.u32.max (x.toNat : Int) = ((~~~x).toNat : Int) := by
  rw [show IntKind.u32.max = ((4294967295 : UInt32).toNat : Int) from rfl, w_xor]
  congr 1
theorem w_add (x y : UInt32) : ((x.toNat : Int) + (y.toNat : Int)) % 4294967296 = ((x + y).toNat : Int) := by rw [UInt32.toNat_add]; omega
theorem w_shr (x : UInt32) (n : Nat) (h : n < 32) : (x.toNat : Int) / 2 ^ n = ((x >>> UInt32.ofNat n).toNat : Int) := by
  rw [UInt32.toNat_shiftRight, UInt32.toNat_ofNat_of_lt' (by show n < 4294967296; omega), Nat.mod_eq_of_lt h, Nat.shiftRight_eq_div_pow]
  simp
theorem w_shl (x : UInt32) (n : Nat) (h : n < 32) : ((x.toNat : Int) * 2 ^ n) % 4294967296 = ((x <<< UInt32.ofNat n).toNat : Int) := by
  rw [UInt32.toNat_shiftLeft, UInt32.toNat_ofNat_of_lt' (by show n < 4294967296; omega), Nat.mod_eq_of_lt h, Nat.shiftLeft_eq]
  simp
set_option maxRecDepth 100000 in
theorem c_choose (x y z : UInt32) (w : World) : Calls Tryd.prog 120 #[wv x, wv y, wv z] w fun e w' => e = .returned (wv (chooseW x y z)) ∧ w' = w := by
  go_enter Tryd.func120, Tryd.ntmps120
  go_wp2
  go_ret
  simp only [w_and, w_not, w_xor]
  exact ⟨rfl, trivial⟩
set_option maxRecDepth 100000 in
theorem c_most (x y z : UInt32) (w : World) : Calls Tryd.prog 122 #[wv x, wv y, wv z] w fun e w' => e = .returned (wv (mostW x y z)) ∧ w' = w := by
  go_enter Tryd.func122, Tryd.ntmps122
  go_wp2
  go_ret
  simp only [w_and, w_xor]
  exact ⟨rfl, trivial⟩
theorem rot_is (x : UInt32) (n s : Nat) (h : n + s = 32) (h1 : 0 < n) (h2 : 0 < s) : bits .or .u32 (((x.toNat : Int) * 2 ^ s) % 4294967296) ((x.toNat : Int) / 2 ^ n) = ((rotr x (UInt32.ofNat n)).toNat : Int) := by
  rw [w_shl x s (by omega), w_shr x n (by omega), w_or, rotr]
  congr 4
  apply UInt32.toNat_inj.1
  rw [UInt32.toNat_sub, UInt32.toNat_ofNat_of_lt' (show s < UInt32.size by show s < 4294967296; omega), UInt32.toNat_ofNat_of_lt' (show n < UInt32.size by show n < 4294967296; omega)]
  show s = (4294967296 - n + 32) % 4294967296
  omega
set_option maxRecDepth 100000 in
theorem c_rotl (x : UInt32) (n s : Nat) (k : Int) (w : World) (h : n + s = 32) (h1 : 0 < n) (h2 : 0 < s) (hb : bits .and .u64 (IntKind.u64.wrap k) 31 = (s : Int)) : Calls Tryd.prog 143 #[wv x, .int .i64 k] w fun e w' => e = .returned (wv (rotr x (UInt32.ofNat n))) ∧ w' = w := by
  have hr := rot_is x n s h h1 h2
  have hn : n = 32 - s := by omega
  have hs : s ≤ 31 := by omega
  rw [hn] at hr
  go_enter Tryd.func143, Tryd.ntmps143
  go_wp2
  go_ret
  refine ⟨?_, rfl⟩
  rw [hn]
  rfl
def rotOk (n : Nat) : Bool := decide (0 < n) && decide (n < 32) && decide (bits .and .u64 (IntKind.u64.wrap (-((n : Int) % 32))) 31 = ((32 - n : Nat) : Int))
set_option maxRecDepth 100000 in
theorem c_turn (x : UInt32) (n : Nat) (w : World) (h : rotOk n = true) : Calls Tryd.prog 135 #[wv x, .int .i64 (n : Int)] w fun e w' => e = .returned (wv (rotr x (UInt32.ofNat n))) ∧ w' = w := by
  simp only [rotOk, Bool.and_eq_true, decide_eq_true_eq] at h
  obtain ⟨⟨h1, h2⟩, h3⟩ := h
  have h31 : n ≤ 31 := by omega
  go_enter Tryd.func135, Tryd.ntmps135
  go_wp2_with fail
  refine (c_rotl x n (32 - n) _ w (by omega) h1 (by omega) h3).mono ?_
  rintro e w' ⟨rfl, rfl⟩
  go_wp2
  go_ret
  exact ⟨rfl, rfl⟩
set_option maxRecDepth 100000 in
theorem c_great0 (x : UInt32) (w : World) : Calls Tryd.prog 119 #[.int .i64 0, wv x] w fun e w' => e = .returned (wv (great0 x)) ∧ w' = w := by
  go_enter Tryd.func119, Tryd.ntmps119
  go_wp2_with fail
  refine (c_turn x 2 w (by decide)).mono ?_
  rintro e w' ⟨rfl, rfl⟩
  go_wp2_with fail
  refine (c_turn x 13 w' (by decide)).mono ?_
  rintro e w' ⟨rfl, rfl⟩
  go_wp2_with fail
  refine (c_turn x 22 w' (by decide)).mono ?_
  rintro e w' ⟨rfl, rfl⟩
  go_wp2_with fail
  go_ret
  simp only [w_xor]
  exact ⟨rfl, trivial⟩
set_option maxRecDepth 100000 in
theorem c_great1 (x : UInt32) (w : World) : Calls Tryd.prog 119 #[.int .i64 1, wv x] w fun e w' => e = .returned (wv (great1 x)) ∧ w' = w := by
  go_enter Tryd.func119, Tryd.ntmps119
  go_wp2_with fail
  refine (c_turn x 6 w (by decide)).mono ?_
  rintro e w' ⟨rfl, rfl⟩
  go_wp2_with fail
  refine (c_turn x 11 w' (by decide)).mono ?_
  rintro e w' ⟨rfl, rfl⟩
  go_wp2_with fail
  refine (c_turn x 25 w' (by decide)).mono ?_
  rintro e w' ⟨rfl, rfl⟩
  go_wp2_with fail
  go_ret
  simp only [w_xor]
  exact ⟨rfl, trivial⟩
set_option maxRecDepth 100000 in
theorem c_small0 (x : UInt32) (w : World) : Calls Tryd.prog 134 #[.int .i64 0, wv x] w fun e w' => e = .returned (wv (small0 x)) ∧ w' = w := by
  go_enter Tryd.func134, Tryd.ntmps134
  go_wp2_with fail
  refine (c_turn x 7 w (by decide)).mono ?_
  rintro e w' ⟨rfl, rfl⟩
  go_wp2_with fail
  refine (c_turn x 18 w' (by decide)).mono ?_
  rintro e w' ⟨rfl, rfl⟩
  go_wp2_with fail
  go_ret
  refine ⟨congrArg (fun z => Ending.returned (.int .u32 z)) (?_ : bits .xor .u32 (bits .xor .u32 ((rotr x 7).toNat : Int) ((rotr x 18).toNat : Int)) ((x.toNat : Int) / (8 : Int)) = _), rfl⟩
  have h3 : (x.toNat : Int) / (8 : Int) = ((x >>> 3).toNat : Int) := w_shr x 3 (by decide)
  rw [w_xor, h3, w_xor]
  rfl
set_option maxRecDepth 100000 in
theorem c_small1 (x : UInt32) (w : World) : Calls Tryd.prog 134 #[.int .i64 1, wv x] w fun e w' => e = .returned (wv (small1 x)) ∧ w' = w := by
  go_enter Tryd.func134, Tryd.ntmps134
  go_wp2_with fail
  refine (c_turn x 17 w (by decide)).mono ?_
  rintro e w' ⟨rfl, rfl⟩
  go_wp2_with fail
  refine (c_turn x 19 w' (by decide)).mono ?_
  rintro e w' ⟨rfl, rfl⟩
  go_wp2_with fail
  go_ret
  refine ⟨congrArg (fun z => Ending.returned (.int .u32 z)) (?_ : bits .xor .u32 (bits .xor .u32 ((rotr x 17).toNat : Int) ((rotr x 19).toNat : Int)) ((x.toNat : Int) / (1024 : Int)) = _), rfl⟩
  have h3 : (x.toNat : Int) / (1024 : Int) = ((x >>> 10).toNat : Int) := w_shr x 10 (by decide)
  rw [w_xor, h3, w_xor]
  rfl
/-- The words of cube roots lie where the program's text lays them. -/
def PrimesAt (w : World) : Prop := 0 < w.heap.size ∧ ∀ (i : Nat) (p : UInt32), primesW[i]? = some p → w.cell? ⟨0, i, none⟩ = some (wv p)
theorem PrimesAt.below {B : Nat} {w w' : World} (h : PrimesAt w) (hb : Below B w w') (hB : 0 < B) : PrimesAt w' :=
  ⟨Nat.lt_of_lt_of_le h.1 hb.size, fun i p hi => (World.cell?_of_block (a := ⟨0, i, none⟩) (hb.block 0 hB)).trans (h.2 i p hi)⟩
theorem PrimesAt.ext {w w' : World} (h : PrimesAt w) (hb : Below w.heap.size w w') : PrimesAt w' := h.below hb h.1
set_option maxRecDepth 100000 in
theorem c_prime (i : Nat) (w : World) (hP : PrimesAt w) (hi : i < 64) : Calls Tryd.prog 121 #[.int .i64 (i : Int)] w fun e w' => e = .returned (wv (primesW.getD i 0)) ∧ w' = w := by
  have hc : w.cell? ⟨0, i, none⟩ = some (wv (primesW.getD i 0)) := hP.2 i _ (by
    have : primesW.length = 64 := by decide
    rw [List.getD_eq_getElem?_getD, List.getElem?_eq_getElem (by omega)]; rfl)
  obtain ⟨p, hp⟩ : ∃ p, p = primesW.getD i 0 := ⟨_, rfl⟩
  rw [← hp] at hc ⊢
  clear hp hP
  go_enter Tryd.func121, Tryd.ntmps121
  go_wp2_with fail
  go_ret
  exact ⟨rfl, rfl⟩
end Go.Proofs.YtdkeflhgengblaaDoor
namespace Go.Proofs.YtdkeflhgengblaaDoor
open Go.RowKit
section
variable {P : Program} {α : Type} {d : Kd α} {ok : Nat → Prop} {w : World} {A : Option Addr} {n c : Nat} {xs : List α} {T E : TypeId}
theorem elem_of (hT : P.underlying T = some (.slice E)) : P.underlying T = some (.slice (P.elem T)) := by
  have : P.elem T = E := by simp [Program.elem, hT]
  rw [this]; exact hT
theorem size_run (hE : (P.info? E).map (·.size) = some d.sz) (wx : World) : (sizeOf E).run P wx = .ok d.sz wx := by
  cases hq : P.info? E with
  | none => simp [hq] at hE
  | some i => simp [hq] at hE; simp [sizeOf, typeInfo, hq, hE]
theorem Kd.Row.from (h : d.Row ok w A n c xs) (hT : P.underlying T = some (.slice E)) (hE : (P.info? E).map (·.size) = some d.sz) {k : Nat} (hk : k ≤ n) (kd : IntKind) (i : Int) (hi : i = k) :
    ∃ B, (∀ wx : World, (Instr.sliceAt T (.slice A n c) (some (.int kd i)) none none).run P wx = .ok (.slice B (n - k) (c - k)) wx) ∧ d.Row ok w B (n - k) (c - k) (xs.drop k) := by
  refine ⟨_, fun wx => ?_, h.drop hk⟩
  subst hi
  have e : P.elem T = E := by simp [Program.elem, hT]
  rw [run_sliceAt_slice _ _ _ _ _ _ (elem_of hT), run_slice_l wx T A n c (elem_of hT) kd k (by omega) (by omega), e, size_run hE]
  simp [Result.andThen, sliced]
theorem Kd.Row.upto (h : d.Row ok w A n c xs) (hT : P.underlying T = some (.slice E)) (hE : (P.info? E).map (·.size) = some d.sz) {k : Nat} (hk : k ≤ n) (kd : IntKind) (i : Int) (hi : i = k) :
    (∀ wx : World, (Instr.sliceAt T (.slice A n c) none (some (.int kd i)) none).run P wx = .ok (.slice A k c) wx) ∧ d.Row ok w A k c (xs.take k) := by
  refine ⟨fun wx => ?_, h.take hk⟩
  subst hi
  have e : P.elem T = E := by simp [Program.elem, hT]
  have hc := h.2.1
  rw [run_sliceAt_slice _ _ _ _ _ _ (elem_of hT), run_slice_h wx T A n c (elem_of hT) kd k (by omega) (by omega), e, size_run hE]
  simp [Result.andThen, sliced, Addr.add]
/-- []byte(text), where the walk stands at it. -/
theorem at_tobytes {ops : Array Oper} {rest : List Oper} {a : Act} {Q : Exit → Act → World → Prop} {dst : Option Tmp} {ty : TypeId} {pos : String} {after : Array Edge} {x : Operand} (S D : TypeId) (s : ByteArray) (hx : a.eval x = .string s)
    (hS : P.underlying S = some .string) (hD : P.underlying D = some (.slice E)) (hE : P.underlying E = some (.int .u8)) (hs : s.size ≤ 9223372036854775807) (H : Nat) (hH : w.heap.size = H)
    (k : ∀ c w', kU8.Row (fun k => k = H) w' (some ⟨H, 0, none⟩) s.size c (byt s) → Below H w w' → H < w'.heap.size → wpList P ops Q rest (a.put dst (.slice (some ⟨H, 0, none⟩) s.size c)) w') :
    wpList P ops Q (⟨dst, .convert S D x, ty, pos, after, none⟩ :: rest) a w :=
  wpList_tobytes rfl S D x rfl s hx hS hD hE hs H hH k
end
end Go.Proofs.YtdkeflhgengblaaDoor
namespace Go.Proofs.YtdkeflhgengblaaDoor
open Go.RowKit

section
variable {P : Program} {ops : Array Oper}

/-- The operations that surely came ahead of one (so deep). -/
def needs (ops : Array Oper) : Nat → Nat → List Nat
  | 0, _ => []
  | f + 1, i => match ops[i]? with
    | none => []
    | some o => (o.after.toList.filter fun e => Region.binds .any e).flatMap fun e => e.on :: needs ops f e.on
def dstAt (ops : Array Oper) (i : Nat) : Option Tmp := (ops[i]?).bind (·.dst)
/-- What is looked up of a region: edges point back; no slot is written twice; from the n-th on each operation waits for all ahead of it. -/
def regOk (ops : Array Oper) (n : Nat) : Bool :=
  (List.range ops.size).all (fun i => ((ops[i]?).map fun o => o.after.all fun e => !Region.binds .any e || decide (e.on < i)).getD true) &&
  (List.range ops.size).all (fun i => (List.range i).all fun j => match dstAt ops i, dstAt ops j with | some d, some e => d != e || decide (n ≤ i) | _, _ => true) &&
  (List.range ops.size).all (fun i => decide (i < n) || (List.range i).all fun j => (needs ops ops.size i).contains j) && decide (n ≤ ops.size)
/-- Is it a slot that none of the first n operations writes? -/
def freeSlot (ops : Array Oper) (n : Nat) (t : Tmp) : Bool := (List.range n).all fun i => dstAt ops i != some t

/-- The values of the first n operations, laid in their slots. -/
def putN (ops : Array Oper) (vs : Nat → Value) : Nat → Act → Act
  | 0, a => a
  | n + 1, a => (putN ops vs n a).put (dstAt ops n) (vs n)

theorem put_size (a : Act) (d : Option Tmp) (v : Value) : (a.put d v).tmps.size = a.tmps.size := by cases d <;> simp [Act.put]
theorem put_defers' (a : Act) (d : Option Tmp) (v : Value) : (a.put d v).defers = a.defers := by cases d <;> rfl
theorem getD_put_same {a : Act} {d : Tmp} {v : Value} (h : d < a.tmps.size) : (a.put (some d) v).tmps.getD d undef = v := by
  simp [Act.put, h]
theorem getD_put_ne {a : Act} {d : Option Tmp} {t : Tmp} {v : Value} (h : d ≠ some t) : (a.put d v).tmps.getD t undef = a.tmps.getD t undef := by
  cases d with
  | none => rfl
  | some d =>
    have : d ≠ t := fun e => h (by rw [e])
    simp [Act.put, Array.getElem?_setIfInBounds_ne this]

def cnt (l : Array Bool) : Nat → Nat
  | 0 => 0
  | n + 1 => cnt l n + (if l.getD n false = true then 0 else 1)
theorem getD_set_same {l : Array Bool} {i : Nat} (h : i < l.size) (d : Bool) : (l.setIfInBounds i true).getD i d = true := by simp [h]
theorem cnt_far {l : Array Bool} {i : Nat} : ∀ {n : Nat}, n ≤ i → cnt (l.setIfInBounds i true) n = cnt l n
  | 0, _ => rfl
  | n + 1, h => by rw [cnt, cnt, cnt_far (by omega), getD_set_ne false (by omega)]
theorem cnt_set {l : Array Bool} {i : Nat} (hi : i < l.size) (h0 : l.getD i false = false) : ∀ {n : Nat}, i < n → cnt (l.setIfInBounds i true) n + 1 = cnt l n
  | 0, h => absurd h (by omega)
  | n + 1, h => by
    rw [cnt, cnt]
    by_cases e : i = n
    · subst e
      rw [cnt_far (Nat.le_refl _), getD_set_same hi, h0]
      simp
    · have := cnt_set hi h0 (n := n) (by omega)
      rw [getD_set_ne false e]
      omega
theorem cnt_zero {l : Array Bool} : ∀ {n : Nat}, cnt l n = 0 → ∀ i, i < n → l.getD i false = true
  | 0, _, i, hi => absurd hi (by omega)
  | n + 1, h, i, hi => by
    rw [cnt] at h
    by_cases e : i = n
    · subst e
      by_cases hb : l.getD i false = true
      · exact hb
      · rw [if_neg hb] at h; omega
    · exact cnt_zero (n := n) (by omega) i (by omega)

/-- What is listed waits for nothing that isn't. -/
def Closed (ops : Array Oper) (l : Array Bool) : Prop := ∀ (i : Nat) (o : Oper), ops[i]? = some o → l.getD i false = true → ∀ e ∈ o.after, Region.binds .any e = true → l.getD e.on false = true
theorem needs_listed {l : Array Bool} (hc : Closed ops l) : ∀ (f i : Nat) (o : Oper), ops[i]? = some o → (∀ e ∈ o.after, Region.binds .any e = true → l.getD e.on false = true) → ∀ j ∈ needs ops f i, l.getD j false = true
  | 0, _, _, _, _, j, hj => by simp [needs] at hj
  | f + 1, i, o, ho, he, j, hj => by
    rw [needs, ho] at hj
    simp only [List.mem_flatMap, List.mem_filter] at hj
    obtain ⟨e, ⟨hem, hb⟩, hj⟩ := hj
    have hl := he e (by simpa using hem) hb
    rcases List.mem_cons.1 hj with rfl | hj
    · exact hl
    · cases hq : ops[e.on]? with
      | none =>
        cases f with
        | zero => simp [needs] at hj
        | succ f => rw [needs, hq] at hj; simp at hj
      | some o' => exact needs_listed hc f e.on o' hq (hc e.on o' hq hl) j hj

theorem regOk_edges {n : Nat} (h : regOk ops n = true) {i : Nat} {o : Oper} (ho : ops[i]? = some o) : ∀ e ∈ o.after, Region.binds .any e = true → e.on < i := by
  intro e he hb
  simp only [regOk, Bool.and_eq_true, List.all_eq_true, List.mem_range] at h
  have hi : i < ops.size := (Array.getElem?_eq_some_iff.1 ho).1
  have h1 := h.1.1.1 i hi
  rw [ho] at h1
  simp only [Option.map_some, Option.getD_some, Array.all_eq_true_iff_forall_mem, Bool.or_eq_true, decide_eq_true_eq] at h1
  rcases h1 e he with h' | h'
  · simp [hb] at h'
  · exact h'
theorem regOk_tail {n : Nat} (h : regOk ops n = true) {i j : Nat} (hi : i < ops.size) (hn : n ≤ i) (hj : j < i) : j ∈ needs ops ops.size i := by
  simp only [regOk, Bool.and_eq_true, List.all_eq_true, List.mem_range, Bool.or_eq_true, decide_eq_true_eq] at h
  rcases h.1.2 i hi with h' | h'
  · omega
  · simpa using h' j hj
theorem regOk_dst {n : Nat} (h : regOk ops n = true) {i j : Nat} (hi : i < n) (hj : j < n) (hne : i ≠ j) {d : Tmp} (h1 : dstAt ops i = some d) (h2 : dstAt ops j = some d) : False := by
  have hn : n ≤ ops.size := by simp only [regOk, Bool.and_eq_true, decide_eq_true_eq] at h; exact h.2
  simp only [regOk, Bool.and_eq_true, List.all_eq_true, List.mem_range] at h
  have hd := h.1.1.2
  rcases Nat.lt_or_gt_of_ne hne with hlt | hlt
  · have := hd j (by omega) i hlt
    rw [h1, h2] at this
    simp at this
    omega
  · have := hd i (by omega) j hlt
    rw [h1, h2] at this
    simp at this
    omega

/-- The tail: one operation behind the other. -/
theorem wpAny_tail {Q : Exit → Act → World → Prop} {n : Nat} (hok : regOk ops n = true) : ∀ (fuel k : Nat) (l : Array Bool) (a : Act) (w : World), l.size = ops.size → n ≤ k → k ≤ ops.size → ops.size ≤ k + fuel →
    (∀ i, i < ops.size → (l.getD i false = true ↔ i < k)) → wpList P ops Q (ops.toList.drop k) a w → wpAny P .any ops Q fuel l a w := by
  intro fuel
  induction fuel with
  | zero =>
    intro k l a w hs hn hk hf hl h
    have hk' : k = ops.size := by omega
    refine ⟨?_, ?_⟩
    · apply List.eq_nil_iff_forall_not_mem.2
      intro j hj
      obtain ⟨h0, o, ho, _⟩ := mem_ready.1 hj
      have hj' : j < ops.size := (Array.getElem?_eq_some_iff.1 ho).1
      have := (hl j hj').2 (by omega)
      simp [hs, hj'] at h0 this
      simp [h0] at this
    · rw [hk', List.drop_eq_nil_of_le (by simp)] at h
      exact h
  | succ fuel ih =>
    intro k l a w hs hn hk hf hl h
    by_cases hke : k = ops.size
    · refine wpAny_done ?_ ?_ _
      · apply List.eq_nil_iff_forall_not_mem.2
        intro j hj
        obtain ⟨h0, o, ho, _⟩ := mem_ready.1 hj
        have hj' : j < ops.size := (Array.getElem?_eq_some_iff.1 ho).1
        have := (hl j hj').2 (by omega)
        simp [hs, hj'] at h0 this
        simp [h0] at this
      · rw [hke, List.drop_eq_nil_of_le (by simp)] at h
        exact h
    · have hk' : k < ops.size := by omega
      have hok' : ops[k]? = some ops[k] := Array.getElem?_eq_getElem hk'
      have hrk : k ∈ Region.ready .any ops l := by
        refine mem_ready.2 ⟨?_, _, hok', fun e he hb => (hl _ ?_).2 (regOk_edges hok hok' e he hb)⟩
        · have : ¬ l.getD k false = true := fun h' => by have := (hl k hk').1 h'; omega
          simp [hs, hk'] at this ⊢
          exact this
        · have := regOk_edges hok hok' e he hb; omega
      refine ⟨fun h0 => (by rw [h0] at hrk; simp at hrk), fun i hi => ?_⟩
      have hik : i = k := by
        obtain ⟨h0, o, ho, hall⟩ := mem_ready.1 hi
        have hi' : i < ops.size := (Array.getElem?_eq_some_iff.1 ho).1
        have h1 : ¬ i < k := fun hlt => by
          have := (hl i hi').2 hlt
          simp [hs, hi'] at h0 this
          simp [h0] at this
        rcases Nat.lt_or_ge k i with hlt | hge
        · have hcl : Closed ops l := fun i' o' ho' hl' e he hb => by
            have hi'' : i' < ops.size := (Array.getElem?_eq_some_iff.1 ho').1
            have h2 := (hl i' hi'').1 hl'
            have h3 := regOk_edges hok ho' e he hb
            exact (hl _ (by omega)).2 (by omega)
          have := needs_listed hcl ops.size i o ho hall k (regOk_tail hok hi' (by omega) hlt)
          have := (hl k hk').1 this
          omega
        · omega
      subst hik
      have hd : ops.toList.drop i = ops[i] :: ops.toList.drop (i + 1) := by
        rw [List.drop_eq_getElem_cons (by simpa using hk')]
        simp
      rw [hd] at h
      unfold wpList at h
      have hnext : ∀ a w, wpList P ops Q (ops.toList.drop (i + 1)) a w → wpAny P .any ops Q fuel (l.setIfInBounds i true) a w := by
        intro a w h
        refine ih (i + 1) _ a w (by simpa using hs) (by omega) (by omega) (by omega) (fun j hj => ?_) h
        by_cases e : i = j
        · subst e
          simp [hs, hk']
        · rw [getD_set_ne false e, hl j hj]
          omega
      unfold wpOp
      rw [hok']
      simp only
      split
      · rename_i hw
        rw [if_pos hw] at h
        exact h.imp (Oper.wp_mono hnext) id
      · rename_i hw
        rw [if_neg hw] at h
        exact hnext _ _ h

theorem putN_size (vs : Nat → Value) (a : Act) : ∀ n, (putN ops vs n a).tmps.size = a.tmps.size ∧ (putN ops vs n a).defers = a.defers
  | 0 => ⟨rfl, rfl⟩
  | n + 1 => by have := putN_size vs a n; exact ⟨(put_size _ _ _).trans this.1, (put_defers' _ _ _).trans this.2⟩
theorem putN_free (vs : Nat → Value) (a : Act) {t : Tmp} : ∀ n, (∀ i, i < n → dstAt ops i ≠ some t) → (putN ops vs n a).tmps.getD t undef = a.tmps.getD t undef
  | 0, _ => rfl
  | n + 1, h => by
    rw [putN, getD_put_ne (h n (by omega))]
    exact putN_free vs a n fun i hi => h i (by omega)
theorem putN_at (vs : Nat → Value) (a : Act) {t : Tmp} (ht : t < a.tmps.size) {i : Nat} (hi : dstAt ops i = some t) : ∀ n, i < n → (∀ j, j < n → j ≠ i → dstAt ops j ≠ some t) → (putN ops vs n a).tmps.getD t undef = vs i
  | 0, h, _ => absurd h (by omega)
  | n + 1, h, hd => by
    rw [putN]
    by_cases e : i = n
    · subst e
      rw [hi]
      exact getD_put_same (by rw [(putN_size vs a i).1]; exact ht)
    · rw [getD_put_ne (hd n (by omega) (fun e' => e e'.symm))]
      exact putN_at vs a ht hi n (by omega) fun j hj hne => hd j (by omega) hne

/-- THE LAW. S i: what is known of the value that operation i yields, and goes on to hold; Le: how worlds grow. -/
theorem wp_region_mono {Q : Exit → Act → World → Prop} {id : Nat} {a0 : Act} {w0 : World} (hm : P.follows .mixedOrders = true) (n : Nat) (hok : regOk ops n = true)
    (hslots : ((List.range n).all fun i => (dstAt ops i).all fun d => decide (d < a0.tmps.size)) = true)
    (Le : World → World → Prop) (hrefl : ∀ w, Le w w) (htrans : ∀ w w' w'', Le w w' → Le w' w'' → Le w w'')
    (S : Nat → Value → World → Prop) (hS : ∀ i v w w', Le w w' → S i v w → S i v w')
    (hop : ∀ i, i < n → ∀ o, ops[i]? = some o → ∀ (a : Act) (w : World), Le w0.drew w → a.defers = a0.defers → (∀ t, freeSlot ops n t = true → a.tmps.getD t undef = a0.tmps.getD t undef) →
      (∀ j d, (needs ops ops.size i).contains j = true → dstAt ops j = some d → S j (a.tmps.getD d undef) w) →
      ∀ K : Act → World → Prop, (∀ v w', Le w w' → S i v w' → K (a.put o.dst v) w') → if Region.wanted o (yielded ops a.tmps) = true then o.wp P a w K Q else K (a.put o.dst undef) w)
    (hQ : ∀ (vs : Nat → Value) (w : World), Le w0.drew w → (∀ i, i < n → (dstAt ops i).isSome = true → S i (vs i) w) → wpList P ops Q (ops.toList.drop n) (putN ops vs n a0) w) :
    (Code.region id ops true).wp P Q a0 w0 := by
  refine wp_region_any hm ?_
  have hnsz : n ≤ ops.size := by simp only [regOk, Bool.and_eq_true, decide_eq_true_eq] at hok; exact hok.2
  have hslot : ∀ i d, i < n → dstAt ops i = some d → d < a0.tmps.size := by
    intro i d hi hd
    have := List.all_eq_true.1 hslots i (by simpa using hi)
    rw [hd] at this
    simpa using this
  have key : ∀ (fuel : Nat) (l : Array Bool) (a : Act) (w : World), l.size = ops.size → cnt l ops.size ≤ fuel → Closed ops l → (∀ i, n ≤ i → i < ops.size → l.getD i false = false) → Le w0.drew w → a.defers = a0.defers → a.tmps.size = a0.tmps.size →
      (∀ t, (∀ i, i < n → l.getD i false = true → dstAt ops i ≠ some t) → a.tmps.getD t undef = a0.tmps.getD t undef) →
      (∀ i d, i < n → l.getD i false = true → dstAt ops i = some d → S i (a.tmps.getD d undef) w) → wpAny P .any ops Q fuel l a w := by
    intro fuel
    -- all of the first n are listed: the tail
    have tail : ∀ (fuel : Nat) (l : Array Bool) (a : Act) (w : World), l.size = ops.size → cnt l ops.size ≤ fuel → (∀ i, n ≤ i → i < ops.size → l.getD i false = false) → (∀ i, i < n → l.getD i false = true) → Le w0.drew w → a.defers = a0.defers → a.tmps.size = a0.tmps.size →
        (∀ t, (∀ i, i < n → l.getD i false = true → dstAt ops i ≠ some t) → a.tmps.getD t undef = a0.tmps.getD t undef) →
        (∀ i d, i < n → l.getD i false = true → dstAt ops i = some d → S i (a.tmps.getD d undef) w) → wpAny P .any ops Q fuel l a w := by
      intro fuel l a w hs hc ht hall hle hd hsz hfree hSi
      have hcn : ∀ m, m ≤ ops.size → n ≤ m → cnt l m = m - n := by
        intro m
        induction m with
        | zero => intro _ h; rw [cnt]; omega
        | succ m ih =>
          intro h1 h2
          rw [cnt]
          by_cases e : n = m + 1
          · have : ∀ q, q ≤ m + 1 → cnt l q = 0 := by
              intro q
              induction q with
              | zero => intro _; rfl
              | succ q ihq => intro hq; rw [cnt, ihq (by omega), if_pos (hall q (by omega))]
            have h3 := this m (by omega)
            rw [h3, if_pos (hall m (by omega))]; omega
          · rw [ih (by omega) (by omega), ht m (by omega) (by omega)]
            simp; omega
      refine wpAny_tail hok fuel n l a w hs (Nat.le_refl _) hnsz (by have := hcn ops.size (Nat.le_refl _) hnsz; omega) (fun i hi => ⟨fun h => ?_, fun h => hall i h⟩) ?_
      · rcases Nat.lt_or_ge i n with h' | h'
        · exact h'
        · rw [ht i h' hi] at h; cases h
      · have ha : a = putN ops (fun i => ((dstAt ops i).map fun d => a.tmps.getD d undef).getD undef) n a0 := by
          have h1 := putN_size (ops := ops) (fun i => ((dstAt ops i).map fun d => a.tmps.getD d undef).getD undef) a0 n
          have ht : a.tmps = (putN ops (fun i => ((dstAt ops i).map fun d => a.tmps.getD d undef).getD undef) n a0).tmps := by
            apply Array.ext
            · rw [h1.1, hsz]
            · intro t ht1 ht2
              have hg : a.tmps.getD t undef = (putN ops (fun i => ((dstAt ops i).map fun d => a.tmps.getD d undef).getD undef) n a0).tmps.getD t undef := by
                by_cases hex : ∃ i, i < n ∧ dstAt ops i = some t
                · obtain ⟨i, hi, hdi⟩ := hex
                  rw [putN_at _ a0 (hsz ▸ ht1) hdi n hi (fun j hj hne hdj => regOk_dst hok hj hi hne hdj hdi)]
                  simp only [hdi, Option.map_some, Option.getD_some]
                · rw [putN_free _ a0 n (fun i hi hdi => hex ⟨i, hi, hdi⟩)]
                  exact hfree t fun i hi _ hdi => hex ⟨i, hi, hdi⟩
              have e1 : ∀ (A : Array Value) (h : t < A.size), A.getD t undef = A[t] := fun A h => by unfold Array.getD; rw [dif_pos h]; rfl
              rw [e1 _ ht1, e1 _ ht2] at hg
              exact hg
          cases a with
          | mk ta da =>
            cases hp : putN ops (fun i => ((dstAt ops i).map fun d => (Act.mk ta da).tmps.getD d undef).getD undef) n a0 with
            | mk tb db =>
              rw [hp] at ht h1
              simp only at ht h1 hd
              rw [ht, hd, h1.2]
        rw [ha]
        refine hQ _ w hle fun i hi hsome => ?_
        obtain ⟨d, hdi⟩ := Option.isSome_iff_exists.1 hsome
        simp only [hdi, Option.map_some, Option.getD_some]
        exact hSi i d hi (hall i hi) hdi
    induction fuel with
    | zero =>
      intro l a w hs hc hcl ht hle hd hsz hfree hSi
      have hz := cnt_zero (l := l) (n := ops.size) (by omega)
      exact tail 0 l a w hs hc ht (fun i hi => hz i (by omega)) hle hd hsz hfree hSi
    | succ fuel ih =>
      intro l a w hs hc hcl ht hle hd hsz hfree hSi
      by_cases hall : ∀ i, i < n → l.getD i false = true
      · exact tail _ l a w hs hc ht hall hle hd hsz hfree hSi
      · refine ⟨fun h0 => absurd ?_ hall, fun i hi => ?_⟩
        · -- nothing is ready: all are listed
          intro i
          induction i using Nat.strongRecOn with
          | _ i ihi =>
            intro hi
            by_cases hb : l.getD i false = true
            · exact hb
            · exfalso
              have hi' : i < ops.size := by omega
              have : i ∈ Region.ready .any ops l := mem_ready.2 ⟨by simp [hs, hi'] at hb ⊢; exact hb, _, Array.getElem?_eq_getElem hi', fun e he hbd => by
                have hlt := regOk_edges hok (Array.getElem?_eq_getElem hi') e he hbd
                exact ihi e.on hlt (by omega)⟩
              rw [h0] at this
              simp at this
        · obtain ⟨h0, o, ho, hallo⟩ := mem_ready.1 hi
          have hi' : i < ops.size := (Array.getElem?_eq_some_iff.1 ho).1
          have h0' : l.getD i false = false := by simp [hs, hi'] at h0 ⊢; exact h0
          have hin : i < n := by
            rcases Nat.lt_or_ge i n with h' | h'
            · exact h'
            · exfalso
              refine hall fun j hj => needs_listed hcl ops.size i o ho hallo j (regOk_tail hok hi' h' (by omega))
          have hneeds := needs_listed hcl ops.size i o ho hallo
          have hdst : dstAt ops i = o.dst := by simp [dstAt, ho]
          have hnext : ∀ v w', Le w w' → S i v w' → wpAny P .any ops Q fuel (l.setIfInBounds i true) (a.put o.dst v) w' := by
            intro v w' hlw hSv
            refine ih _ _ _ (by simpa using hs) (by have := cnt_set (by omega) h0' hi'; omega) ?_ ?_ (htrans _ _ _ hle hlw) (by rw [put_defers']; exact hd) (by rw [put_size]; exact hsz) ?_ ?_
            · intro i' o' ho' hl' e he hb
              by_cases e' : i = i'
              · subst e'
                rw [ho] at ho'
                have := Option.some.inj ho'
                subst this
                exact getD_set_true (hallo e he hb)
              · rw [getD_set_ne false e'] at hl'
                exact getD_set_true (hcl i' o' ho' hl' e he hb)
            · intro j hj hj'
              rw [getD_set_ne false (by omega)]
              exact ht j hj hj'
            · intro t hft
              rw [getD_put_ne]
              · exact hfree t fun j hj hlj => hft j hj (getD_set_true hlj)
              · rw [← hdst]
                exact hft i hin (getD_set_same (by omega) _)
            · intro j d hj hlj hdj
              by_cases e : i = j
              · subst e
                rw [← hdst, hdj, getD_put_same (by rw [hsz]; exact hslot i d hin hdj)]
                exact hSv
              · rw [getD_set_ne false e] at hlj
                rw [getD_put_ne]
                · exact hS j _ w w' hlw (hSi j d hj hlj hdj)
                · rw [← hdst]
                  exact fun h => regOk_dst hok hin hj e h hdj
          have := hop i hin o ho a w hle hd (fun t hft => hfree t fun j hj _ hdj => by
              simp only [freeSlot, List.all_eq_true, List.mem_range, bne_iff_ne] at hft
              exact hft j hj hdj)
            (fun j d hj hdj => by
              have hjm : j ∈ needs ops ops.size i := by simpa using hj
              have hlj := hneeds j hjm
              have hjn : j < n := by
                rcases Nat.lt_or_ge j n with h' | h'
                · exact h'
                · exfalso
                  rcases Nat.lt_or_ge j ops.size with h'' | h''
                  · rw [ht j h' h''] at hlj; cases hlj
                  · simp [dstAt, Array.getElem?_eq_none h''] at hdj
              exact hSi j d hjn hlj hdj)
            (wpAny P .any ops Q fuel (l.setIfInBounds i true)) hnext
          unfold wpOp
          rw [ho]
          simp only
          split
          · rename_i hw; rw [if_pos hw] at this; exact .inl this
          · rename_i hw; rw [if_neg hw] at this; exact this
  refine key ops.size _ a0 w0.drew (by simp) ?_ ?_ ?_ (hrefl _) rfl rfl (fun _ _ => rfl) ?_
  · have : ∀ (l : Array Bool) m, cnt l m ≤ m := by
      intro l m
      induction m with
      | zero => exact Nat.le_refl _
      | succ m ih => rw [cnt]; split <;> omega
    exact this _ _
  · intro i o ho hl
    have hi : i < ops.size := (Array.getElem?_eq_some_iff.1 ho).1
    simp [hi] at hl
  · intro i _ hi
    simp [hi]
  · intro i d hi hl
    have : i < ops.size := by omega
    simp [this] at hl

/-- The world has grown: what was there is as it was. -/
def Ext (w w' : World) : Prop := Below w.heap.size w w'
theorem Ext.refl (w : World) : Ext w w := Below.refl _ _
theorem Ext.trans {w w' w'' : World} (h : Ext w w') (k : Ext w' w'') : Ext w w'' :=
  Below.trans h (Below.mono k h.size)
theorem Ext.drew (w : World) : Ext w w.drew := (Below.refl _ _).drew
theorem Ext.alloc (w : World) (o : Obj) : Ext w (w.alloc o) := (Below.refl _ _).alloc (Nat.le_refl _) o
theorem Ext.cell {w w' : World} (h : Ext w w') {a : Addr} {v : Value} (hc : w.cell? a = some v) : w'.cell? a = some v :=
  (Below.cell h (World.block_lt_of_cell? w a hc)).trans hc
theorem Ext.heap {w w' : World} (h : Ext w w') {b : Nat} {o : Obj} (hc : w.heap[b]? = some o) : w'.heap[b]? = some o := by
  have hlt : b < w.heap.size := by
    rcases Nat.lt_or_ge b w.heap.size with h' | h'
    · exact h'
    · rw [Array.getElem?_eq_none h'] at hc; cases hc
  exact (h.block b hlt).trans hc

/-- What is asked of an operation: whatever came ahead of it besides what it waits for. -/
def Hop (P : Program) (ops : Array Oper) (n : Nat) (a0 : Act) (w0 : World) (S : Nat → Value → World → Prop) (Q : Exit → Act → World → Prop) (i : Nat) (o : Oper) : Prop :=
  ∀ (a : Act) (w : World), Ext w0 w → a.defers = a0.defers → (∀ t, freeSlot ops n t = true → a.eval (.tmp t) = a0.eval (.tmp t)) →
    (∀ j d, (needs ops ops.size i).contains j = true → dstAt ops j = some d → S j (a.eval (.tmp d)) w) →
    ∀ K : Act → World → Prop, (∀ v w', Ext w w' → S i v w' → K (a.put o.dst v) w') →
      match o.guard with
      | none => o.wp P a w K Q
      | some (j, want) => if yielded ops a.tmps j = some want then o.wp P a w K Q else K (a.put o.dst undef) w
def Hops (P : Program) (ops : Array Oper) (n : Nat) (a0 : Act) (w0 : World) (S : Nat → Value → World → Prop) (Q : Exit → Act → World → Prop) : List Oper → Nat → Prop
  | [], _ => True
  | o :: r, i => Hop P ops n a0 w0 S Q i o ∧ Hops P ops n a0 w0 S Q r (i + 1)
theorem hops_at {n : Nat} {a0 : Act} {w0 : World} {S : Nat → Value → World → Prop} {Q : Exit → Act → World → Prop} : ∀ (l : List Oper) (k i : Nat) (o : Oper), Hops P ops n a0 w0 S Q l k → l[i]? = some o → Hop P ops n a0 w0 S Q (k + i) o
  | [], _, i, o, _, hi => by simp at hi
  | x :: l, k, 0, o, h, hi => by simp at hi; subst hi; exact h.1
  | x :: l, k, i + 1, o, h, hi => by
    have := hops_at l (k + 1) i o h.2 (by simpa using hi)
    rw [show k + (i + 1) = k + 1 + i from by omega]
    exact this
theorem wp_region_ext {Q : Exit → Act → World → Prop} {id : Nat} {a0 : Act} {w0 : World} (hm : P.follows .mixedOrders = true) (n : Nat) (S : Nat → Value → World → Prop) (hok : regOk ops n = true)
    (hslots : ((List.range n).all fun i => (dstAt ops i).all fun d => decide (d < a0.tmps.size)) = true)
    (hS : ∀ i v w w', Ext w w' → S i v w → S i v w') (hop : Hops P ops n a0 w0 S Q (ops.toList.take n) 0)
    (hQ : ∀ (vs : Nat → Value) (w : World), Ext w0 w → (∀ i, i < n → (dstAt ops i).isSome = true → S i (vs i) w) → wpList P ops Q (ops.toList.drop n) (putN ops vs n a0) w) :
    (Code.region id ops true).wp P Q a0 w0 := by
  refine wp_region_mono hm n hok hslots Ext Ext.refl (fun _ _ _ => Ext.trans) S hS (fun i hi o ho a w hle hd hf hs K hK => ?_) (fun vs w hle => hQ vs w ((Ext.drew _).trans hle))
  have h := hops_at _ 0 i o hop (by rw [List.getElem?_take, if_pos hi]; simpa using ho)
  rw [Nat.zero_add] at h
  have h := h a w ((Ext.drew _).trans hle) hd hf hs K hK
  cases hg : o.guard with
  | none =>
    rw [hg] at h
    rw [if_pos (by simp [Region.wanted, hg])]
    exact h
  | some jw =>
    obtain ⟨j, want⟩ := jw
    rw [hg] at h
    simp only at h
    split
    · rename_i hw
      rw [if_pos (by simpa [Region.wanted, hg] using hw)] at h
      exact h
    · rename_i hw
      rw [if_neg (by simpa [Region.wanted, hg] using hw)] at h
      exact h
end

end Go.Proofs.YtdkeflhgengblaaDoor
namespace Go.Proofs.YtdkeflhgengblaaDoor
open Go.RowKit

theorem mixed : Tryd.prog.follows .mixedOrders = true := by kernel_rfl

/-- A field. -/
structure Fld where
  kind : UInt8
  value : ByteArray
  deriving DecidableEq
def Fld.cells (f : Fld) : List Value := [bv f.kind, .string f.value]
def kFld : Kd Fld where
  sz := 2
  K _ _ f cs := cs = f.cells ∧ f.value.size ≤ maxLen
  len h := by rw [h.1]; rfl
  one h u hu := by
    rw [h.1] at hu
    simp [Fld.cells] at hu
    rcases hu with rfl | rfl <;> rfl
  keep _ h := h
  more _ h := h
  bound h := h
def fput (f : Fld) : List UInt8 := f.kind :: (vput f.value.size ++ byt f.value)

set_option maxRecDepth 100000 in
set_option maxHeartbeats 800000 in
theorem c_fput (A : Option Addr) (n c : Nat) (xs : List UInt8) (k : UInt8) (s : ByteArray) (ok : Nat → Prop) (w : World) (hR : kU8.Row ok w A n c xs) (hn : n ≤ 1099511627776) (hs : s.size ≤ 1099511627776) :
    Calls Tryd.prog 114 #[.slice A n c, .agg #[bv k, .string s]] w fun e w' => ∃ v, e = .returned v ∧ kU8.Own (fun _ => True) w.heap.size w' 5 v (xs ++ fput ⟨k, s⟩) ∧ Below w.heap.size w w' := by
  have HR := hide hR
  have hc : n ≤ c := hR.2.1
  have hm : c ≤ 9223372036854775807 := hR.2.2.1
  have HN := hide hn
  have HS := hide hs
  clear hR hn hs
  go_enter Tryd.func114, Tryd.ntmps114
  go_wp2
  refine wp_region_ext mixed 9 (fun i v w' => match i with
    | 0 => v = .slice A n c
    | 1 => v = .slice A n c
    | 2 => v = .int .i64 (n : Int)
    | 3 => v = .slice A n c
    | 4 => v = .int .i64 (n : Int)
    | 5 => v = .slice A n n
    | 6 => v = .pointer (some ⟨w.heap.size, 0, none⟩)
    | 7 => v = bv k
    | _ => ∃ g, v = .slice (some ⟨g, 0, none⟩) 1 1 ∧ w'.heap[g]? = some (.cells #[bv k] 5)
    ) (by kernel_rfl) rfl ?_ ?_ ?_
  · intro i v w1 w2 h1 h2
    split at h2 <;> first | exact h2 | (obtain ⟨g, rfl, hg⟩ := h2; exact ⟨g, rfl, h1.heap hg⟩)
  · refine ⟨fun a w1 hle hd hf hs K hK => ?_, fun a w1 hle hd hf hs K hK => ?_, fun a w1 hle hd hf hs K hK => ?_, fun a w1 hle hd hf hs K hK => ?_, fun a w1 hle hd hf hs K hK => ?_, fun a w1 hle hd hf hs K hK => ?_, fun a w1 hle hd hf hs K hK => ?_, fun a w1 hle hd hf hs K hK => ?_, fun a w1 hle hd hf hs K hK => ?_, trivial⟩
    all_goals clear hd
    · -- 5 := Op.move t0
      have e0 := hf 0 rfl; simp [Act.eval] at e0
      go_simp; exact hK _ _ (Ext.refl _) rfl
    · -- 6 := Op.move t0
      have e0 := hf 0 rfl; simp [Act.eval] at e0
      go_simp; exact hK _ _ (Ext.refl _) rfl
    · -- 7 := Op.call { builtin len, args := #[t6], argTypes := #[60] }
      have e6 := hs 1 6 (by kernel_rfl) rfl; simp [Act.eval] at e6
      go_simp; exact hK _ _ (Ext.refl _) rfl
    · -- 8 := Op.move t0
      have e0 := hf 0 rfl; simp [Act.eval] at e0
      go_simp; exact hK _ _ (Ext.refl _) rfl
    · -- 9 := Op.call { builtin len, args := #[t8], argTypes := #[60] }
      have e8 := hs 3 8 (by kernel_rfl) rfl; simp [Act.eval] at e8
      go_simp; exact hK _ _ (Ext.refl _) rfl
    · -- 10 := Op.slice 60 t5 none (some t7) (some t9)
      have e5 := hs 0 5 (by kernel_rfl) rfl; have e7 := hs 2 7 (by kernel_rfl) rfl; have e9 := hs 4 9 (by kernel_rfl) rfl; simp [Act.eval] at e5 e7 e9
      go_simp; exact hK _ _ (Ext.refl _) rfl
    · -- 11 := Op.fieldAddr 117 t3 0
      have e3 := hf 3 rfl; simp [Act.eval] at e3
      go_simp; exact hK _ _ (Ext.refl _) rfl
    · -- 12 := Op.load 5 t11
      have e11 := hs 6 11 (by kernel_rfl) rfl; simp [Act.eval] at e11
      have hc := hle.cell (a := ⟨w.heap.size, 0, none⟩) (v := bv k) (by go_simp)
      go_simp; exact hK _ _ (Ext.refl _) rfl
    · -- 13 := Op.buildSlice 60 1 #[(0, t12)]
      have e12 := hs 7 12 (by kernel_rfl) rfl; simp [Act.eval] at e12
      go_simp; exact hK _ _ (Ext.alloc _ _) ⟨_, rfl, heap_alloc_new _ _⟩
  · intro vs w1 hle hs
    have v0 := hs 0 (by omega) rfl
    have v1 := hs 1 (by omega) rfl
    have v2 := hs 2 (by omega) rfl
    have v3 := hs 3 (by omega) rfl
    have v4 := hs 4 (by omega) rfl
    have v5 := hs 5 (by omega) rfl
    have v6 := hs 6 (by omega) rfl
    have v7 := hs 7 (by omega) rfl
    have v8 := hs 8 (by omega) rfl
    simp only at v0 v1 v2 v3 v4 v5 v6 v7 v8
    clear hs
    obtain ⟨g, v8, hg⟩ := v8
    simp only [putN, dstAt]
    go_simp
    have hle2 : Ext w w1 := (Ext.alloc _ _).trans hle
    have HR1 := hide (row8 (ok' := fun _ => True) (HR.out.clip.below hle2) (fun _ _ _ => trivial))
    have HS1 := hide (src8 (ok := fun _ => True) (ok' := fun _ => True) (Kd.Src.blk (d := kU8) (x := k) hg ⟨rfl, trivial⟩ rfl))
    have HL := hide hle2
    have hcell : w1.heap[w.heap.size]? = some (.cells #[bv k, .string s] 144) := hle.heap (heap_alloc_new _ _)
    have HC := hide hcell
    clear hg hle hle2 hcell v0 v1 v2 v3 v4 v5 v6 v7 v8
    go_wp2_with (at_builtin; go_must (refine wpList_full (d := kU8) rfl _ _ _ rfl Tryd.underlying22 u8_info rfl (by decide) 1 rfl rfl HR1.out HS1.out (by decide) ?_ ?_ ?_))
    · have := HN.out; simp only [maxLen]; omega
    · have := HN.out; omega
    intro v1 w2 h2 h3
    have hcell2 := Ext.heap h3 HC.out
    have hc2 : w2.cell? ⟨w.heap.size, 1, none⟩ = some (.string s) := by rw [cell_of_row w2 _ _ _ _ _ hcell2]; rfl
    obtain ⟨A1, c1, hv1, hr2⟩ := h2.row
    have hl : xs.length = n := HR.out.1
    rw [List.length_append, List.length_cons, List.length_nil, hl] at hv1 hr2
    have HB1 := hide (HL.out.trans h3)
    have HR2 := hide hr2
    have HW := hide (show IntKind.u64.wrap (s.size : Int) = (s.size : Int) by have := HS.out; rw [IntKind.wrap_u64]; omega)
    clear h2 h3 hcell2 hr2
    rw [hv1]
    clear hv1
    go_wp2
    refine wp_region_ext mixed 8 (fun i v w' => match i with
      | 0 => v = .slice A1 (n + 1) c1
      | 1 => v = .pointer (some ⟨w.heap.size, 1, none⟩)
      | 2 => v = .string s
      | 3 => v = .int .i64 (s.size : Int)
      | 4 => v = .int .u64 (s.size : Int)
      | 5 => ∃ A2 c2, v = .slice A2 (n + 1 + (vput s.size).length) c2 ∧ kU8.Own (fun _ => True) w.heap.size w' 5 v ((xs ++ [k]) ++ vput s.size)
      | 6 => v = .pointer (some ⟨w.heap.size, 1, none⟩)
      | _ => v = .string s
      ) (by kernel_rfl) rfl ?_ ?_ ?_
    · intro i v w1 w2 h1 h2
      split at h2 <;> first | exact h2 | (obtain ⟨A2, c2, h3, h4⟩ := h2; exact ⟨A2, c2, h3, h4.below h1⟩)
    · refine ⟨fun a w1 hle hd hf hs K hK => ?_, fun a w1 hle hd hf hs K hK => ?_, fun a w1 hle hd hf hs K hK => ?_, fun a w1 hle hd hf hs K hK => ?_, fun a w1 hle hd hf hs K hK => ?_, fun a w1 hle hd hf hs K hK => ?_, fun a w1 hle hd hf hs K hK => ?_, fun a w1 hle hd hf hs K hK => ?_, trivial⟩
      all_goals clear hd
      · -- 15 := Op.move t0
        have e0 := hf 0 rfl; simp [Act.eval] at e0
        go_simp; exact hK _ _ (Ext.refl _) rfl
      · -- 16 := Op.fieldAddr 117 t3 1
        have e3 := hf 3 rfl; simp [Act.eval] at e3
        go_simp; exact hK _ _ (Ext.refl _) rfl
      · -- 17 := Op.load 9 t16
        have e16 := hs 1 16 (by kernel_rfl) rfl; simp [Act.eval] at e16
        have hc := hle.cell hc2
        go_simp; exact hK _ _ (Ext.refl _) rfl
      · -- 18 := Op.call { builtin len, args := #[t17], argTypes := #[9] }
        have e17 := hs 2 17 (by kernel_rfl) rfl; simp [Act.eval] at e17
        go_simp; exact hK _ _ (Ext.refl _) rfl
      · -- 19 := Op.convert 3 39 t18
        have e18 := hs 3 18 (by kernel_rfl) rfl; simp [Act.eval] at e18
        have hw := HW.out
        go_simp; exact hK _ _ (Ext.refl _) rfl
      · -- 20 := Op.call { value (Operand.func 84), args := #[t15, t19], argTypes := #[60, 39] }
        have e15 := hs 0 15 (by kernel_rfl) rfl; have e19 := hs 4 19 (by kernel_rfl) rfl; simp [Act.eval] at e15 e19
        go_simp
        refine (c_vput A1 (n + 1) c1 (xs ++ [k]) s.size _ _ _ rfl (HR2.out.below hle) (by have := HN.out; omega) (by have := HS.out; omega)).mono ?_
        rintro e w4 ⟨v, rfl, ho, hb⟩
        obtain ⟨A2, c2, hv⟩ := ho.form
        refine hK _ _ hb ⟨A2, c2, by rw [hv]; simp only [List.length_append, List.length_cons, List.length_nil, hl], ho.lower ?_⟩
        have := hle.size
        have := HB1.out.size
        simp at *
        omega
      · -- 21 := Op.fieldAddr 117 t3 1
        have e3 := hf 3 rfl; simp [Act.eval] at e3
        go_simp; exact hK _ _ (Ext.refl _) rfl
      · -- 22 := Op.load 9 t21
        have e21 := hs 6 21 (by kernel_rfl) rfl; simp [Act.eval] at e21
        have hc := hle.cell hc2
        go_simp; exact hK _ _ (Ext.refl _) rfl
    · intro vs w1 hle hs
      have v0 := hs 0 (by omega) rfl
      have v1 := hs 1 (by omega) rfl
      have v2 := hs 2 (by omega) rfl
      have v3 := hs 3 (by omega) rfl
      have v4 := hs 4 (by omega) rfl
      have v5 := hs 5 (by omega) rfl
      have v6 := hs 6 (by omega) rfl
      have v7 := hs 7 (by omega) rfl
      simp only at v0 v1 v2 v3 v4 v5 v6 v7
      clear hs
  
      obtain ⟨A2, c2, v5, ho⟩ := v5
      simp only [putN, dstAt]
      go_simp
      have HB2 := hide (HB1.out.trans hle)
      rw [v5] at ho
      have HO := hide ho
      clear hle ho v0 v1 v2 v3 v4 v5 v6 v7
      go_wp2_with (at_builtin; go_must (refine wpList_app_str rfl _ _ _ _ rfl Tryd.underlying22 Tryd.underlying9 u8_info s rfl rfl (.inl HO.out) HB2.out.size ?_ ?_))
      · have h1 := HN.out; have h2 := HS.out; have h3 := vput_len10 (n := s.size) (by omega); simp only [List.length_append, List.length_cons, List.length_nil]; omega
      intro v1 w4 _ h1 h3 _ _
      have H1 := hide (h1 (.inr (by simpa using HO.out)))
      have H3 := hide h3
      clear h1 h3
      go_wp2
      go_ret
      refine ⟨_, rfl, ?_, Below.trans HB2.out H3.out⟩
      have := H1.out
      simpa [fput] using this
end Go.Proofs.YtdkeflhgengblaaDoor
namespace Go.Proofs.YtdkeflhgengblaaDoor
open Go.RowKit

section
variable {P : Program} {ops : Array Oper}

/-- THE LAW. S i: what is known of the value that operation i yields, and goes on to hold; Le: how worlds grow. -/
theorem wp_region_one {Q : Exit → Act → World → Prop} {id : Nat} {a0 : Act} {w0 : World} (hm : P.follows .mixedOrders = true) (n : Nat) (hok : regOk ops n = true)
    (hslots : ((List.range n).all fun i => (dstAt ops i).all fun d => decide (d < a0.tmps.size)) = true)
    (Le : World → World → Prop) (hrefl : ∀ w, Le w w) (htrans : ∀ w w' w'', Le w w' → Le w' w'' → Le w w'')
    (e : Nat) (T : World → Prop) (Lt : World → World → Prop) (hlt : ∀ w w', Lt w w' → Le w w') (hT0 : T w0.drew) (hT : ∀ w w', Lt w w' → T w → T w')
    (S : Nat → Value → World → Prop) (hS : ∀ i v w w', i ≠ e → Le w w' → S i v w → S i v w') (hSe : ∀ v w w', Lt w w' → S e v w → S e v w')
    (hop : ∀ i, i < n → ∀ o, ops[i]? = some o → ∀ (a : Act) (w : World), Le w0.drew w → a.defers = a0.defers → (∀ t, freeSlot ops n t = true → a.tmps.getD t undef = a0.tmps.getD t undef) →
      (∀ j d, (needs ops ops.size i).contains j = true → dstAt ops j = some d → S j (a.tmps.getD d undef) w) →
      (i = e → T w) → ∀ K : Act → World → Prop, (∀ v w', (Lt w w' ∨ i = e ∧ Le w w') → S i v w' → K (a.put o.dst v) w') → if Region.wanted o (yielded ops a.tmps) = true then o.wp P a w K Q else K (a.put o.dst undef) w)
    (hQ : ∀ (vs : Nat → Value) (w : World), Le w0.drew w → (∀ i, i < n → (dstAt ops i).isSome = true → S i (vs i) w) → wpList P ops Q (ops.toList.drop n) (putN ops vs n a0) w) :
    (Code.region id ops true).wp P Q a0 w0 := by
  refine wp_region_any hm ?_
  have hnsz : n ≤ ops.size := by simp only [regOk, Bool.and_eq_true, decide_eq_true_eq] at hok; exact hok.2
  have hslot : ∀ i d, i < n → dstAt ops i = some d → d < a0.tmps.size := by
    intro i d hi hd
    have := List.all_eq_true.1 hslots i (by simpa using hi)
    rw [hd] at this
    simpa using this
  have key : ∀ (fuel : Nat) (l : Array Bool) (a : Act) (w : World), (l.getD e false = false → T w) → l.size = ops.size → cnt l ops.size ≤ fuel → Closed ops l → (∀ i, n ≤ i → i < ops.size → l.getD i false = false) → Le w0.drew w → a.defers = a0.defers → a.tmps.size = a0.tmps.size →
      (∀ t, (∀ i, i < n → l.getD i false = true → dstAt ops i ≠ some t) → a.tmps.getD t undef = a0.tmps.getD t undef) →
      (∀ i d, i < n → l.getD i false = true → dstAt ops i = some d → S i (a.tmps.getD d undef) w) → wpAny P .any ops Q fuel l a w := by
    intro fuel
    -- all of the first n are listed: the tail
    have tail : ∀ (fuel : Nat) (l : Array Bool) (a : Act) (w : World), l.size = ops.size → cnt l ops.size ≤ fuel → (∀ i, n ≤ i → i < ops.size → l.getD i false = false) → (∀ i, i < n → l.getD i false = true) → Le w0.drew w → a.defers = a0.defers → a.tmps.size = a0.tmps.size →
        (∀ t, (∀ i, i < n → l.getD i false = true → dstAt ops i ≠ some t) → a.tmps.getD t undef = a0.tmps.getD t undef) →
        (∀ i d, i < n → l.getD i false = true → dstAt ops i = some d → S i (a.tmps.getD d undef) w) → wpAny P .any ops Q fuel l a w := by
      intro fuel l a w hs hc ht hall hle hd hsz hfree hSi
      have hcn : ∀ m, m ≤ ops.size → n ≤ m → cnt l m = m - n := by
        intro m
        induction m with
        | zero => intro _ h; rw [cnt]; omega
        | succ m ih =>
          intro h1 h2
          rw [cnt]
          by_cases e : n = m + 1
          · have : ∀ q, q ≤ m + 1 → cnt l q = 0 := by
              intro q
              induction q with
              | zero => intro _; rfl
              | succ q ihq => intro hq; rw [cnt, ihq (by omega), if_pos (hall q (by omega))]
            have h3 := this m (by omega)
            rw [h3, if_pos (hall m (by omega))]; omega
          · rw [ih (by omega) (by omega), ht m (by omega) (by omega)]
            simp; omega
      refine wpAny_tail hok fuel n l a w hs (Nat.le_refl _) hnsz (by have := hcn ops.size (Nat.le_refl _) hnsz; omega) (fun i hi => ⟨fun h => ?_, fun h => hall i h⟩) ?_
      · rcases Nat.lt_or_ge i n with h' | h'
        · exact h'
        · rw [ht i h' hi] at h; cases h
      · have ha : a = putN ops (fun i => ((dstAt ops i).map fun d => a.tmps.getD d undef).getD undef) n a0 := by
          have h1 := putN_size (ops := ops) (fun i => ((dstAt ops i).map fun d => a.tmps.getD d undef).getD undef) a0 n
          have ht : a.tmps = (putN ops (fun i => ((dstAt ops i).map fun d => a.tmps.getD d undef).getD undef) n a0).tmps := by
            apply Array.ext
            · rw [h1.1, hsz]
            · intro t ht1 ht2
              have hg : a.tmps.getD t undef = (putN ops (fun i => ((dstAt ops i).map fun d => a.tmps.getD d undef).getD undef) n a0).tmps.getD t undef := by
                by_cases hex : ∃ i, i < n ∧ dstAt ops i = some t
                · obtain ⟨i, hi, hdi⟩ := hex
                  rw [putN_at _ a0 (hsz ▸ ht1) hdi n hi (fun j hj hne hdj => regOk_dst hok hj hi hne hdj hdi)]
                  simp only [hdi, Option.map_some, Option.getD_some]
                · rw [putN_free _ a0 n (fun i hi hdi => hex ⟨i, hi, hdi⟩)]
                  exact hfree t fun i hi _ hdi => hex ⟨i, hi, hdi⟩
              have e1 : ∀ (A : Array Value) (h : t < A.size), A.getD t undef = A[t] := fun A h => by unfold Array.getD; rw [dif_pos h]; rfl
              rw [e1 _ ht1, e1 _ ht2] at hg
              exact hg
          cases a with
          | mk ta da =>
            cases hp : putN ops (fun i => ((dstAt ops i).map fun d => (Act.mk ta da).tmps.getD d undef).getD undef) n a0 with
            | mk tb db =>
              rw [hp] at ht h1
              simp only at ht h1 hd
              rw [ht, hd, h1.2]
        rw [ha]
        refine hQ _ w hle fun i hi hsome => ?_
        obtain ⟨d, hdi⟩ := Option.isSome_iff_exists.1 hsome
        simp only [hdi, Option.map_some, Option.getD_some]
        exact hSi i d hi (hall i hi) hdi
    induction fuel with
    | zero =>
      intro l a w hTl hs hc hcl ht hle hd hsz hfree hSi
      have hz := cnt_zero (l := l) (n := ops.size) (by omega)
      exact tail 0 l a w hs hc ht (fun i hi => hz i (by omega)) hle hd hsz hfree hSi
    | succ fuel ih =>
      intro l a w hTl hs hc hcl ht hle hd hsz hfree hSi
      by_cases hall : ∀ i, i < n → l.getD i false = true
      · exact tail _ l a w hs hc ht hall hle hd hsz hfree hSi
      · refine ⟨fun h0 => absurd ?_ hall, fun i hi => ?_⟩
        · -- nothing is ready: all are listed
          intro i
          induction i using Nat.strongRecOn with
          | _ i ihi =>
            intro hi
            by_cases hb : l.getD i false = true
            · exact hb
            · exfalso
              have hi' : i < ops.size := by omega
              have : i ∈ Region.ready .any ops l := mem_ready.2 ⟨by simp [hs, hi'] at hb ⊢; exact hb, _, Array.getElem?_eq_getElem hi', fun e he hbd => by
                have hlt := regOk_edges hok (Array.getElem?_eq_getElem hi') e he hbd
                exact ihi e.on hlt (by omega)⟩
              rw [h0] at this
              simp at this
        · obtain ⟨h0, o, ho, hallo⟩ := mem_ready.1 hi
          have hi' : i < ops.size := (Array.getElem?_eq_some_iff.1 ho).1
          have h0' : l.getD i false = false := by simp [hs, hi'] at h0 ⊢; exact h0
          have hin : i < n := by
            rcases Nat.lt_or_ge i n with h' | h'
            · exact h'
            · exfalso
              refine hall fun j hj => needs_listed hcl ops.size i o ho hallo j (regOk_tail hok hi' h' (by omega))
          have hneeds := needs_listed hcl ops.size i o ho hallo
          have hdst : dstAt ops i = o.dst := by simp [dstAt, ho]
          have hnext : ∀ v w', (Lt w w' ∨ i = e ∧ Le w w') → S i v w' → wpAny P .any ops Q fuel (l.setIfInBounds i true) (a.put o.dst v) w' := by
            intro v w' hlo hSv
            have hlw : Le w w' := hlo.elim (hlt _ _) And.right
            refine ih _ _ _ (fun hfe => ?_) (by simpa using hs) (by have := cnt_set (by omega) h0' hi'; omega) ?_ ?_ (htrans _ _ _ hle hlw) (by rw [put_defers']; exact hd) (by rw [put_size]; exact hsz) ?_ ?_
            · have hne : i ≠ e := fun h => by
                subst h
                rw [getD_set_same (by omega)] at hfe
                cases hfe
              rw [getD_set_ne false hne] at hfe
              rcases hlo with h | ⟨h, -⟩
              · exact hT _ _ h (hTl hfe)
              · exact absurd h hne
            · intro i' o' ho' hl' e he hb
              by_cases e' : i = i'
              · subst e'
                rw [ho] at ho'
                have := Option.some.inj ho'
                subst this
                exact getD_set_true (hallo e he hb)
              · rw [getD_set_ne false e'] at hl'
                exact getD_set_true (hcl i' o' ho' hl' e he hb)
            · intro j hj hj'
              rw [getD_set_ne false (by omega)]
              exact ht j hj hj'
            · intro t hft
              rw [getD_put_ne]
              · exact hfree t fun j hj hlj => hft j hj (getD_set_true hlj)
              · rw [← hdst]
                exact hft i hin (getD_set_same (by omega) _)
            · intro j d hj hlj hdj
              by_cases eij : i = j
              · subst eij
                rw [← hdst, hdj, getD_put_same (by rw [hsz]; exact hslot i d hin hdj)]
                exact hSv
              · rw [getD_set_ne false eij] at hlj
                rw [getD_put_ne]
                · by_cases hje : j = e
                  · subst hje
                    rcases hlo with h | ⟨h, -⟩
                    · exact hSe _ w w' h (hSi j d hj hlj hdj)
                    · exact absurd h eij
                  · exact hS j _ w w' hje hlw (hSi j d hj hlj hdj)
                · rw [← hdst]
                  exact fun h => regOk_dst hok hin hj eij h hdj
          have := hop i hin o ho a w hle hd (fun t hft => hfree t fun j hj _ hdj => by
              simp only [freeSlot, List.all_eq_true, List.mem_range, bne_iff_ne] at hft
              exact hft j hj hdj)
            (fun j d hj hdj => by
              have hjm : j ∈ needs ops ops.size i := by simpa using hj
              have hlj := hneeds j hjm
              have hjn : j < n := by
                rcases Nat.lt_or_ge j n with h' | h'
                · exact h'
                · exfalso
                  rcases Nat.lt_or_ge j ops.size with h'' | h''
                  · rw [ht j h' h''] at hlj; cases hlj
                  · simp [dstAt, Array.getElem?_eq_none h''] at hdj
              exact hSi j d hjn hlj hdj)
            (fun h => hTl (h ▸ h0')) (wpAny P .any ops Q fuel (l.setIfInBounds i true)) hnext
          unfold wpOp
          rw [ho]
          simp only
          split
          · rename_i hw; rw [if_pos hw] at this; exact .inl this
          · rename_i hw; rw [if_neg hw] at this; exact this
  refine key ops.size _ a0 w0.drew (fun _ => hT0) (by simp) ?_ ?_ ?_ (hrefl _) rfl rfl (fun _ _ => rfl) ?_
  · have : ∀ (l : Array Bool) m, cnt l m ≤ m := by
      intro l m
      induction m with
      | zero => exact Nat.le_refl _
      | succ m ih => rw [cnt]; split <;> omega
    exact this _ _
  · intro i o ho hl
    have hi : i < ops.size := (Array.getElem?_eq_some_iff.1 ho).1
    simp [hi] at hl
  · intro i _ hi
    simp [hi]
  · intro i d hi hl
    have : i < ops.size := by omega
    simp [this] at hl

theorem grownBy_refl (w : World) (o : Option Nat) : w.grownBy w o := ⟨rfl, rfl, rfl, Nat.le_refl _, fun _ _ _ => rfl⟩
theorem grownBy_trans {w w' w'' : World} {o : Option Nat} (h : w.grownBy w' o) (k : w'.grownBy w'' o) : w.grownBy w'' o :=
  ⟨k.os.trans h.os, k.tape.trans h.tape, k.output.trans h.output, Nat.le_trans h.size k.size, fun i hi hn => (k.block i (Nat.lt_of_lt_of_le hi h.size) hn).trans (h.block i hi hn)⟩
theorem grownBy_ext {w w' : World} {o : Option Nat} (h : Ext w w') : w.grownBy w' o := ⟨h.os, h.tape, h.output, h.size, fun i hi _ => h.block i hi⟩

def Hop1 (P : Program) (ops : Array Oper) (n : Nat) (a0 : Act) (w0 : World) (b : Option Nat) (e : Nat) (T : World → Prop) (S : Nat → Value → World → Prop) (Q : Exit → Act → World → Prop) (i : Nat) (o : Oper) : Prop :=
  ∀ (a : Act) (w : World), w0.grownBy w b → a.defers = a0.defers → (∀ t, freeSlot ops n t = true → a.eval (.tmp t) = a0.eval (.tmp t)) →
    (∀ j d, (needs ops ops.size i).contains j = true → dstAt ops j = some d → S j (a.eval (.tmp d)) w) → (i = e → T w) →
    ∀ K : Act → World → Prop, (∀ v w', (Ext w w' ∨ i = e ∧ w.grownBy w' b) → S i v w' → K (a.put o.dst v) w') →
      match o.guard with
      | none => o.wp P a w K Q
      | some (j, want) => if yielded ops a.tmps j = some want then o.wp P a w K Q else K (a.put o.dst undef) w
def Hops1 (P : Program) (ops : Array Oper) (n : Nat) (a0 : Act) (w0 : World) (b : Option Nat) (e : Nat) (T : World → Prop) (S : Nat → Value → World → Prop) (Q : Exit → Act → World → Prop) : List Oper → Nat → Prop
  | [], _ => True
  | o :: r, i => Hop1 P ops n a0 w0 b e T S Q i o ∧ Hops1 P ops n a0 w0 b e T S Q r (i + 1)
theorem hops1_at {n : Nat} {a0 : Act} {w0 : World} {b : Option Nat} {e : Nat} {T : World → Prop} {S : Nat → Value → World → Prop} {Q : Exit → Act → World → Prop} : ∀ (l : List Oper) (k i : Nat) (o : Oper), Hops1 P ops n a0 w0 b e T S Q l k → l[i]? = some o → Hop1 P ops n a0 w0 b e T S Q (k + i) o
  | [], _, i, o, _, hi => by simp at hi
  | x :: l, k, 0, o, h, hi => by simp at hi; subst hi; exact h.1
  | x :: l, k, i + 1, o, h, hi => by
    have := hops1_at l (k + 1) i o h.2 (by simpa using hi)
    rw [show k + (i + 1) = k + 1 + i from by omega]
    exact this
/-- b: the block that operation e may change; T: what holds until e is done. -/
theorem wp_region_own {Q : Exit → Act → World → Prop} {id : Nat} {a0 : Act} {w0 : World} (hm : P.follows .mixedOrders = true) (n : Nat) (b : Option Nat) (e : Nat) (T : World → Prop) (S : Nat → Value → World → Prop) (hok : regOk ops n = true)
    (hslots : ((List.range n).all fun i => (dstAt ops i).all fun d => decide (d < a0.tmps.size)) = true) (hT0 : T w0) (hT : ∀ w w', Ext w w' → T w → T w')
    (hS : ∀ i v w w', i ≠ e → w.grownBy w' b → S i v w → S i v w') (hSe : ∀ v w w', Ext w w' → S e v w → S e v w') (hop : Hops1 P ops n a0 w0 b e T S Q (ops.toList.take n) 0)
    (hQ : ∀ (vs : Nat → Value) (w : World), w0.grownBy w b → (∀ i, i < n → (dstAt ops i).isSome = true → S i (vs i) w) → wpList P ops Q (ops.toList.drop n) (putN ops vs n a0) w) :
    (Code.region id ops true).wp P Q a0 w0 := by
  refine wp_region_one hm n hok hslots (fun w w' => w.grownBy w' b) (fun w => grownBy_refl w b) (fun _ _ _ => grownBy_trans) e T Ext (fun _ _ => grownBy_ext) (hT _ _ (Ext.drew _) hT0) hT S hS hSe (fun i hi o ho a w hle hd hf hs hTi K hK => ?_) (fun vs w hle => hQ vs w (grownBy_trans (grownBy_ext (Ext.drew _)) hle))
  have h := hops1_at _ 0 i o hop (by rw [List.getElem?_take, if_pos hi]; simpa using ho)
  rw [Nat.zero_add] at h
  have h := h a w (grownBy_trans (grownBy_ext (Ext.drew _)) hle) hd hf hs hTi K hK
  cases hg : o.guard with
  | none =>
    rw [hg] at h
    rw [if_pos (by simp [Region.wanted, hg])]
    exact h
  | some jw =>
    obtain ⟨j, want⟩ := jw
    rw [hg] at h
    simp only at h
    split
    · rename_i hw
      rw [if_pos (by simpa [Region.wanted, hg] using hw)] at h
      exact h
    · rename_i hw
      rw [if_neg (by simpa [Region.wanted, hg] using hw)] at h
      exact h
end
end Go.Proofs.YtdkeflhgengblaaDoor
namespace Go.Proofs.YtdkeflhgengblaaDoor
open Go.RowKit
section
variable {ops : Array Oper}
def edgeB (ops : Array Oper) (i j : Nat) : Bool := ((ops[i]?).map fun o => o.after.toList.any fun e => Region.binds .any e && e.on == j).getD false
theorem edgeB_iff {i j : Nat} : edgeB ops i j = true ↔ ∃ o, ops[i]? = some o ∧ ∃ e ∈ o.after.toList, Region.binds .any e = true ∧ e.on = j := by
  unfold edgeB
  cases ho : ops[i]? with
  | none => simp
  | some o =>
    simp only [Option.map_some, Option.getD_some, List.any_eq_true, Bool.and_eq_true, beq_iff_eq]
    exact ⟨fun ⟨e, he, h⟩ => ⟨o, rfl, e, he, h⟩, fun ⟨o', ho', e, he, h⟩ => by cases ho'; exact ⟨e, he, h⟩⟩
theorem needs_one {i j : Nat} (h : edgeB ops i j = true) (f : Nat) : j ∈ needs ops (f + 1) i := by
  obtain ⟨o, ho, e, he, hb, rfl⟩ := edgeB_iff.1 h
  rw [needs, ho]
  simp only [List.mem_flatMap, List.mem_filter]
  exact ⟨e, ⟨he, hb⟩, by simp⟩
theorem needs_cons {i j f : Nat} (h : j ∈ needs ops (f + 1) i) : ∃ l, edgeB ops i l = true ∧ (j = l ∨ j ∈ needs ops f l) := by
  rw [needs] at h
  cases ho : ops[i]? with
  | none => rw [ho] at h; simp at h
  | some o =>
    rw [ho] at h
    simp only [List.mem_flatMap, List.mem_filter, List.mem_cons] at h
    obtain ⟨e, ⟨he, hb⟩, h⟩ := h
    exact ⟨e.on, edgeB_iff.2 ⟨o, ho, e, he, hb, rfl⟩, h⟩
theorem needs_step {i j l f : Nat} (h1 : edgeB ops i l = true) (h : j ∈ needs ops f l) : j ∈ needs ops (f + 1) i := by
  obtain ⟨o, ho, e, he, hb, rfl⟩ := edgeB_iff.1 h1
  rw [needs, ho]
  simp only [List.mem_flatMap, List.mem_filter, List.mem_cons]
  exact ⟨e, ⟨he, hb⟩, .inr h⟩
theorem needs_more : ∀ {f i j : Nat}, j ∈ needs ops f i → j ∈ needs ops (f + 1) i
  | 0, i, j, h => by simp [needs] at h
  | f + 1, i, j, h => by
    obtain ⟨l, h1, h2⟩ := needs_cons h
    rcases h2 with rfl | h2
    · exact needs_one h1 _
    · exact needs_step h1 (needs_more h2)
theorem needs_le {f g i j : Nat} (h : j ∈ needs ops f i) (hg : f ≤ g) : j ∈ needs ops g i := by
  obtain ⟨d, rfl⟩ : ∃ d, g = f + d := ⟨g - f, by omega⟩
  clear hg
  induction d with
  | zero => exact h
  | succ d ih => exact needs_more ih
theorem needs_snoc : ∀ {f i j l : Nat}, j ∈ needs ops f i → edgeB ops j l = true → l ∈ needs ops (f + 1) i
  | 0, i, j, l, h, _ => by simp [needs] at h
  | f + 1, i, j, l, h, he => by
    obtain ⟨k, h1, h2⟩ := needs_cons h
    rcases h2 with rfl | h2
    · exact needs_step h1 (needs_one he _)
    · exact needs_step h1 (needs_snoc h2 he)
/-- What lies ahead of operation i: from j on down. -/
def reach (ops : Array Oper) (i : Nat) : Nat → List Nat → List Nat
  | 0, acc => acc
  | j + 1, acc => reach ops i j (if acc.any (fun l => edgeB ops l j) then j :: acc else acc)
theorem reach_sound (hd : ∀ i j, edgeB ops i j = true → j < i) (i : Nat) : ∀ (k : Nat) (acc : List Nat), (∀ l ∈ acc, l = i ∨ (l < i ∧ l ∈ needs ops (i - l) i)) → ∀ l ∈ reach ops i k acc, l = i ∨ (l < i ∧ l ∈ needs ops (i - l) i)
  | 0, acc, h => h
  | j + 1, acc, h => by
    rw [reach]
    refine reach_sound hd i j _ ?_
    split
    · rename_i ha
      obtain ⟨l, hl, he⟩ := List.any_eq_true.1 ha
      intro q hq
      rcases List.mem_cons.1 hq with rfl | hq
      · have hjl := hd l q he
        rcases h l hl with rfl | ⟨h1, h2⟩
        · exact .inr ⟨hjl, needs_le (needs_one he 0) (by omega)⟩
        · exact .inr ⟨by omega, needs_le (needs_snoc h2 he) (by omega)⟩
      · exact h q hq
    · exact h
def regOk3 (ops : Array Oper) (n : Nat) : Bool :=
  (List.range ops.size).all (fun i => ((ops[i]?).map fun o => o.after.all fun e => !Region.binds .any e || decide (e.on < i)).getD true) &&
  (List.range ops.size).all (fun i => (List.range i).all fun j => match dstAt ops i, dstAt ops j with | some d, some e => d != e || decide (n ≤ i) | _, _ => true) &&
  (List.range ops.size).all (fun i => decide (i < n) || (fun l => (List.range i).all fun j => l.contains j) (reach ops i i [i])) && decide (n ≤ ops.size)
theorem regOk_of {n : Nat} (h : regOk3 ops n = true) : regOk ops n = true := by
  simp only [regOk3, Bool.and_eq_true] at h
  obtain ⟨⟨⟨h1, h2⟩, h3⟩, h4⟩ := h
  simp only [regOk, Bool.and_eq_true]
  refine ⟨⟨⟨h1, h2⟩, ?_⟩, h4⟩
  have hd : ∀ i j, edgeB ops i j = true → j < i := by
    intro i j he
    obtain ⟨o, ho, e, hm, hb, rfl⟩ := edgeB_iff.1 he
    have hi : i < ops.size := (Array.getElem?_eq_some_iff.1 ho).1
    have h' := List.all_eq_true.1 h1 i (by simpa using hi)
    rw [ho] at h'
    simp only [Option.map_some, Option.getD_some, Array.all_eq_true_iff_forall_mem, Bool.or_eq_true, decide_eq_true_eq] at h'
    rcases h' e (by simpa using hm) with h'' | h''
    · simp [hb] at h''
    · exact h''
  simp only [List.all_eq_true, List.mem_range, Bool.or_eq_true, decide_eq_true_eq] at h3 ⊢
  intro i hi
  rcases h3 i hi with h' | h'
  · exact .inl h'
  · refine .inr fun j hj => ?_
    have hm : j ∈ reach ops i i [i] := by simpa using h' j hj
    rcases reach_sound hd i i [i] (fun l hl => .inl (by simpa using hl)) j hm with rfl | ⟨-, hn⟩
    · omega
    · simpa using needs_le hn (show i - j ≤ ops.size by omega)
end
end Go.Proofs.YtdkeflhgengblaaDoor
namespace Go.Proofs.YtdkeflhgengblaaDoor
open Go.RowKit
/-- An array of bytes; of words. -/
def blC (l : List UInt8) : Array Value := (l.map bv).toArray
def wlC (l : List UInt32) : Array Value := (l.map wv).toArray
section
variable (l m : List UInt8) (u v : List UInt32)
theorem blC_size : (blC l).size = l.length := by simp [blC]
theorem wlC_size : (wlC u).size = u.length := by simp [wlC]
theorem blC_get (i : Nat) : (blC l)[i]? = (l[i]?).map bv := by simp [blC]
theorem wlC_get (i : Nat) : (wlC u)[i]? = (u[i]?).map wv := by simp [wlC]
theorem blC_at {i : Nat} {x : UInt8} (h : l[i]? = some x) : (blC l)[i]? = some (bv x) := by rw [blC_get, h]; rfl
theorem wlC_at {i : Nat} {x : UInt32} (h : u[i]? = some x) : (wlC u)[i]? = some (wv x) := by rw [wlC_get, h]; rfl
theorem blC_one : oneAll (blC l) = true := by
  rw [oneAll, Array.all_eq_true_iff_forall_mem]
  intro x hx
  simp [blC] at hx
  obtain ⟨b, _, rfl⟩ := hx
  rfl
theorem wlC_one : oneAll (wlC u) = true := by
  rw [oneAll, Array.all_eq_true_iff_forall_mem]
  intro x hx
  simp [wlC] at hx
  obtain ⟨b, _, rfl⟩ := hx
  rfl
theorem blC_set (i : Nat) (x : UInt8) : (blC l).setIfInBounds i (bv x) = blC (l.set i x) := by
  apply Array.ext_getElem?
  intro k
  rw [Array.getElem?_setIfInBounds, blC_get, blC_get, blC_size, List.getElem?_set]
  split
  · split <;> simp_all
  · rfl
theorem wlC_set (i : Nat) (x : UInt32) : (wlC u).setIfInBounds i (wv x) = wlC (u.set i x) := by
  apply Array.ext_getElem?
  intro k
  rw [Array.getElem?_setIfInBounds, wlC_get, wlC_get, wlC_size, List.getElem?_set]
  split
  · split <;> simp_all
  · rfl
theorem blC_part (n : Nat) (h : l.length = n) : part? (blC l) 0 n = some (blC l) := part_self _ _ (by rw [blC_size, h])
theorem wlC_part (n : Nat) (h : u.length = n) : part? (wlC u) 0 n = some (wlC u) := part_self _ _ (by rw [wlC_size, h])
theorem splice0 (C c : Array Value) (h : C.size = c.size) : splice C 0 c = c := by
  have h' : List.drop c.size C.toList = [] := List.drop_eq_nil_of_le (by simp [h])
  simp [splice, h']
theorem splice_nil (C : Array Value) (o : Nat) : splice C o #[] = C := by simp [splice]
theorem blC_splice (o : Nat) : splice (blC l) o (blC m) = blC (l.take o ++ m ++ l.drop (o + m.length)) := by
  simp [splice, blC]
theorem tgC_bl (t : Tg) : tgC t = blC t.l := rfl
end
/-- Eight words. -/
def s8C (s : S8) : Array Value := #[wv s.a, wv s.b, wv s.c, wv s.d, wv s.e, wv s.f, wv s.g, wv s.h]
section
variable (s t : S8)
theorem s8C_size : (s8C s).size = 8 := rfl
theorem s8C_0 : (s8C s)[0]? = some (wv s.a) := rfl
theorem s8C_1 : (s8C s)[1]? = some (wv s.b) := rfl
theorem s8C_2 : (s8C s)[2]? = some (wv s.c) := rfl
theorem s8C_3 : (s8C s)[3]? = some (wv s.d) := rfl
theorem s8C_4 : (s8C s)[4]? = some (wv s.e) := rfl
theorem s8C_5 : (s8C s)[5]? = some (wv s.f) := rfl
theorem s8C_6 : (s8C s)[6]? = some (wv s.g) := rfl
theorem s8C_7 : (s8C s)[7]? = some (wv s.h) := rfl
theorem s8C_wl : s8C s = wlC s.list := rfl
theorem s8C_part : part? (s8C s) 0 8 = some (s8C s) := part_self _ _ rfl
theorem s8C_one : oneAll (s8C s) = true := by rw [s8C_wl]; exact wlC_one _
theorem s8C_splice0 (C : Array Value) (h : C.size = 8) : splice C 0 (s8C s) = s8C s := splice0 _ _ (by rw [h]; rfl)
theorem s8C_ne : (s8C s = #[]) = False := eq_false fun h => by
  have := congrArg Array.size h
  cases this
theorem blC_ne (l : List UInt8) (h : l ≠ []) : (blC l = #[]) = False := eq_false fun h' => by
  have := congrArg Array.size h'
  rw [blC_size] at this
  exact h (List.eq_nil_of_length_eq_zero this)
theorem wlC_ne (l : List UInt32) (h : l ≠ []) : (wlC l = #[]) = False := eq_false fun h' => by
  have := congrArg Array.size h'
  rw [wlC_size] at this
  exact h (List.eq_nil_of_length_eq_zero this)
end
theorem ld8 (a : Addr) : loadCellsFrom a 0 8 #[] = ldAgg a 8 := rfl
theorem ld64 (a : Addr) : loadCellsFrom a 0 64 #[] = ldAgg a 64 := rfl
theorem heap_setCell_at {w : World} {g i : Nat} {C : Array Value} {t : TypeId} (v : Value) (hg : w.heap[g]? = some (.cells C t (0, 0))) : (w.setCell ⟨g, i, none⟩ v).heap[g]? = some (.cells (C.setIfInBounds i v) t (0, 0)) := by
  rw [setCell_eq_setRow w g i C t (0, 0) v hg]
  exact setRow_heap w g C _ t _ hg
theorem size_setCell (w : World) (a : Addr) (v : Value) : (w.setCell a v).heap.size = w.heap.size := by simp
theorem bsetCell {B : Nat} {w w' : World} (h : Below B w w') {g : Nat} (hg : B ≤ g) (i : Nat) (v : Value) : Below B w (w'.setCell ⟨g, i, none⟩ v) :=
  h.trans ⟨rfl, rfl, rfl, by simp, fun k hk => Below.heap_setCell _ _ _ _ (show ¬ k = g by omega)⟩
theorem needs_direct {ops : Array Oper} {i j : Nat} (h : ((ops[i]?).map fun o => o.after.toList.any fun e => Region.binds .any e && e.on == j) = some true) : (needs ops ops.size i).contains j = true := by
  cases ho : ops[i]? with
  | none => rw [ho] at h; cases h
  | some o =>
    rw [ho] at h
    simp only [Option.map_some, Option.some.injEq, List.any_eq_true, Bool.and_eq_true, beq_iff_eq] at h
    obtain ⟨e, he, h1, h2⟩ := h
    have hi : i < ops.size := (Array.getElem?_eq_some_iff.1 ho).1
    obtain ⟨f, hf⟩ : ∃ f, ops.size = f + 1 := ⟨ops.size - 1, by omega⟩
    rw [hf, needs, ho]
    simp only [List.contains_iff_mem, List.mem_flatMap, List.mem_filter]
    exact ⟨e, ⟨he, h1⟩, by simp [h2]⟩
theorem wrap64s {n : Int} (h0 : -9223372036854775808 ≤ n) (h1 : n < 9223372036854775808) : IntKind.i64.wrap n = n := by
  simp [IntKind.wrap, IntKind.bits, IntKind.signed]; omega
theorem w_addW (x y : UInt32) : IntKind.u32.wrap ((x.toNat : Int) + (y.toNat : Int)) = ((x + y).toNat : Int) := by rw [IntKind.wrap_u32']; exact w_add x y
theorem u8_info1 : (Tryd.prog.info? 5).map (·.size) = some 1 := by kernel_rfl
/-- x[i] of an array value. -/
theorem arr_index {P : Program} {T E : TypeId} {N : Nat} (hT : P.underlying T = some (.array N E)) (hE : (P.info? E).map (·.size) = some 1) {k : IntKind} (hU : P.underlying E = some (.int k)) (C : Array Value) (i : Nat) (hi : i < N) (v : Value) (hv : C[i]? = some v) (kd : IntKind) :
    ∀ W : World, (Instr.index T (.agg C) (.int kd (i : Int))).run P W = .ok v W := fun W => by
  have hs : (sizeOf E).run P W = .ok 1 W := by
    cases hq : P.info? E with
    | none => rw [hq] at hE; cases hE
    | some x =>
      rw [hq] at hE
      have : x.size = 1 := by simpa using hE
      simp [sizeOf, typeInfo, hq, this]
  have hle : ((i : Int) < (N : Int)) := by omega
  simp [Instr.index, asIntOf, run_underlying hT, hs, part, isAgg, run_underlying hU, hv, Result.andThen]
  intro h
  omega
/-- x[k:] of an array. -/
theorem arr_from {P : Program} {t E : TypeId} {N : Nat} (ht : P.underlying t = some (.array N E)) (hE : (P.info? E).map (·.size) = some 1) (b o k : Nat) (hk : k < N) (kd : IntKind) (i : Int) (hi : i = k) :
    ∀ W : World, (Instr.sliceAt t (.pointer (some ⟨b, o, none⟩)) (some (.int kd i)) none none).run P W = .ok (.slice (some ⟨b, o + k, none⟩) (N - k) (N - k)) W := fun W => by
  subst hi
  have hs : (sizeOf E).run P W = .ok 1 W := by
    cases hq : P.info? E with
    | none => rw [hq] at hE; cases hE
    | some x =>
      rw [hq] at hE
      have : x.size = 1 := by simpa using hE
      simp [sizeOf, typeInfo, hq, this]
  have hne : ¬ N = k := by omega
  have hle : ((k : Int) ≤ (N : Int)) := by omega
  simp [Instr.sliceAt, Instr.sureAddr, run_underlying ht, Instr.sliceBounds, run_sliceBound, hs, hne, hle, Result.andThen, add_lit']
/-- A part of a block as a slice of bytes. -/
theorem row_bl {w : World} {ok : Nat → Prop} {g o n c : Nat} {C : Array Value} {t : TypeId} {fr : Nat × Nat} (hg : w.heap[g]? = some (.cells C t fr)) (l : List UInt8) (hC : ∀ i x, l[i]? = some x → C[o + i]? = some (bv x)) (hok : ok g) (hn : l.length = n) (hc : n ≤ c) (hm : c ≤ maxLen) : kU8.Row ok w (some ⟨g, o, none⟩) n c l := by
  refine ⟨hn, hc, hm, fun _ => ⟨g, o, rfl, hok, (Array.getElem?_eq_some_iff.1 hg).1, fun i x hx => ⟨[bv x], ⟨rfl, trivial⟩, fun j u hu => ?_⟩⟩⟩
  have hj : j = 0 := by have := (List.getElem?_eq_some_iff.1 hu).1; simp at this; omega
  subst hj
  have hu' : u = bv x := by simpa using hu.symm
  subst hu'
  rw [cell_of_row w _ _ _ _ _ hg]
  have := hC i x hx
  simpa [kU8, Kd.cell] using this
theorem row_all {w : World} {ok : Nat → Prop} {g : Nat} {l : List UInt8} {t : TypeId} {fr : Nat × Nat} (hg : w.heap[g]? = some (.cells (blC l) t fr)) (hok : ok g) (hm : l.length ≤ maxLen) : kU8.Row ok w (some ⟨g, 0, none⟩) l.length l.length l :=
  row_bl hg l (fun i x hx => by rw [Nat.zero_add]; exact blC_at _ hx) hok rfl (Nat.le_refl _) hm
section
variable {P : Program} {ops : Array Oper} {rest : List Oper} {o : Oper} {a : Act} {w : World} {Q : Exit → Act → World → Prop}
theorem setRow_self' (g : Nat) (C : Array Value) (t : TypeId) (h : w.heap[g]? = some (.cells C t (0, 0))) : w.setRow g C = w := setRow_self w g C t (0, 0) h
/-- copy of bytes into a part of a block. -/
theorem wpList_copy8 (hgd : o.guard = none) (d s : Operand) (dT sT : TypeId)
    (ho : o.op = .call { callee := .builtin .copy, args := #[d, s], argTypes := #[dT, sT] }) (elem : TypeId) (hu : P.underlying dT = some (.slice elem)) (hsz : (P.info? elem).map (·.size) = some 1)
    (g off dLen dCap : Nat) {A : Option Addr} {n c : Nat} {xs : List UInt8} {ok : Nat → Prop} (hR : kU8.Row ok w A n c xs) (hd : a.eval d = .slice (some ⟨g, off, none⟩) dLen dCap) (hs : a.eval s = .slice A n c)
    (C : Array Value) (t : TypeId) (hg : w.heap[g]? = some (.cells C t (0, 0))) (hfit : off + min n dLen ≤ C.size)
    (h : wpList P ops Q rest (a.put o.dst (goInt ((min n dLen : Nat) : Int))) (w.setRow g (splice C off (blC (xs.take (min n dLen)))))) : wpList P ops Q (o :: rest) a w := by
  have hl : (xs.take (min n dLen)).length = min n dLen := by rw [List.length_take, hR.1]; omega
  rcases Nat.eq_zero_or_pos (min n dLen) with h0 | h0
  · refine wpList_copy_nothing hgd d s dT sT ho elem hu hsz (some ⟨g, off, none⟩) A dLen dCap n c hd hs h0 ?_
    rw [h0] at h
    rw [show blC (List.take 0 xs) = #[] from rfl, splice_nil, setRow_self' g C t hg] at h
    exact h
  · obtain ⟨b, o', rfl, -, -, hx⟩ := row_bytes hR (by omega)
    refine wpList_copy_own hgd d s dT sT ho elem hu hsz g off dLen dCap ⟨b, o', none⟩ n c hd hs C t hg ((xs.take (min n dLen)).map bv) (by rw [List.length_map, hl]) (fun j v hj => ?_) (by rw [List.length_map, hl]; exact hfit) (fun v hv => ?_) ?_
    · rw [List.getElem?_map, Option.map_eq_some_iff] at hj
      obtain ⟨x, hj, rfl⟩ := hj
      rw [add_lit']
      rw [List.getElem?_take] at hj
      split at hj
      · exact hx j x hj
      · cases hj
    · obtain ⟨x, _, rfl⟩ := List.mem_map.1 hv
      rfl
    · have e : splice C off (blC (xs.take (min n dLen))) = (C.toList.take off ++ ((xs.take (min n dLen)).map bv ++ C.toList.drop (off + ((xs.take (min n dLen)).map bv).length))).toArray := by
        simp [splice, blC, List.append_assoc]
      rw [← e, List.length_map, hl]
      exact h
/-- The same, where the walk stands at it. -/
theorem at_copy8 {dst : Option Tmp} {ty : TypeId} {pos : String} {after : Array Edge} {d s : Operand} {dT sT : TypeId} (elem : TypeId) (hu : P.underlying dT = some (.slice elem)) (hsz : (P.info? elem).map (·.size) = some 1)
    (g off dLen dCap : Nat) {A : Option Addr} {n c : Nat} {xs : List UInt8} {ok : Nat → Prop} (hR : kU8.Row ok w A n c xs) (hd : a.eval d = .slice (some ⟨g, off, none⟩) dLen dCap) (hs : a.eval s = .slice A n c)
    (C : Array Value) (t : TypeId) (hg : w.heap[g]? = some (.cells C t (0, 0))) (k : Nat) (hk : min n dLen = k) (hfit : off + k ≤ C.size) (C' : Array Value) (hC : splice C off (blC (xs.take k)) = C')
    (h : wpList P ops Q rest (a.put dst (.int .i64 (k : Int))) (w.setRow g C')) : wpList P ops Q (⟨dst, .call { callee := .builtin .copy, args := #[d, s], argTypes := #[dT, sT] }, ty, pos, after, none⟩ :: rest) a w := by
  subst hk hC
  exact wpList_copy8 rfl d s dT sT rfl elem hu hsz g off dLen dCap hR hd hs C t hg hfit h
end
end Go.Proofs.YtdkeflhgengblaaDoor
