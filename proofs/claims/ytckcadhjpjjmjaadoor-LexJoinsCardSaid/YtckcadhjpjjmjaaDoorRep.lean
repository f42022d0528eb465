/- Words for memory: how lists, strings and structs lie in cells, and what keeps them. No condition. -/
import Derived.WalkKit
import Derived.WalkSpells
import Derived.WalkLawsBesides
import Derived.Deep.MidRow
import Derived.Deep.AppendLies
import Derived.Deep.Draws
namespace Go.Proofs.YtckcadhjpjjmjaaDoor
open Go.RowKit

theorem hide {p : Prop} (h : p) : Hid p := h

/-- A byte as a cell. -/
abbrev bv (x : UInt8) : Value := .int .u8 (x.toNat : Int)

/-- How data of one type lie in cells; 'ok': the blocks on which this hangs. -/
structure Kd (α : Type) where
  sz : Nat
  K : (Nat → Prop) → World → α → List Value → Prop
  len : ∀ {ok w x cs}, K ok w x cs → cs.length = sz
  one : ∀ {ok w x cs}, K ok w x cs → ∀ u ∈ cs, u.oneCell' = true
  keep : ∀ {ok : Nat → Prop} {w w' : World} {x cs}, (∀ k, ok k → w'.heap[k]? = w.heap[k]?) → K ok w x cs → K ok w' x cs
  more : ∀ {ok ok' : Nat → Prop} {w x cs}, (∀ k, ok k → ok' k) → K ok w x cs → K ok' w x cs
  bound : ∀ {ok : Nat → Prop} {w : World} {x cs}, K ok w x cs → K (fun k => ok k ∧ k < w.heap.size) w x cs

theorem rangeAt_of_heap {w w' : World} {b o : Nat} {cs : List Value} (h : w.rangeAt b o cs) (hb : w'.heap[b]? = w.heap[b]?) : w'.rangeAt b o cs :=
  fun j v hv => (World.cell?_of_block (a := ⟨b, o + j, none⟩) hb).trans (h j v hv)
theorem new_ne (w : World) {b o : Nat} {u : Value} (h : w.cell? ⟨b, o, none⟩ = some u) : w.heap.size ≠ b := Nat.ne_of_gt (World.block_lt_of_cell? w _ h)
theorem rangeAt_lt {w : World} {b o : Nat} {cs : List Value} (h : w.rangeAt b o cs) (hn : 0 < cs.length) : b < w.heap.size :=
  World.block_lt_of_cell? w _ (h 0 _ (List.getElem?_eq_getElem hn))

namespace Kd
variable {α β : Type}

/-- The cells of a row of elements. -/
def Cells (d : Kd α) (ok : Nat → Prop) (w : World) (b o : Nat) (xs : List α) : Prop :=
  ∀ i x, xs[i]? = some x → ∃ cs, d.K ok w x cs ∧ w.rangeAt b (o + i * d.sz) cs
/-- A slice that reads as a list, nil let in. -/
def Row (d : Kd α) (ok : Nat → Prop) (w : World) (A : Option Addr) (n c : Nat) (xs : List α) : Prop :=
  xs.length = n ∧ n ≤ c ∧ c ≤ maxLen ∧ (0 < n → ∃ b o, A = some ⟨b, o, none⟩ ∧ ok b ∧ b < w.heap.size ∧ d.Cells ok w b o xs)

section
variable {d : Kd α} {ok ok' : Nat → Prop} {w w' : World} {A : Option Addr} {n c : Nat} {xs : List α}
theorem Cells.keep {b o : Nat} (h : d.Cells ok w b o xs) (hb : w'.heap[b]? = w.heap[b]?) (hk : ∀ k, ok k → w'.heap[k]? = w.heap[k]?) : d.Cells ok w' b o xs :=
  fun i x hx => let ⟨cs, h1, h2⟩ := h i x hx; ⟨cs, d.keep hk h1, rangeAt_of_heap h2 hb⟩
theorem Row.keep (h : d.Row ok w A n c xs) (hk : ∀ k, ok k → k < w.heap.size → w'.heap[k]? = w.heap[k]?) : d.Row ok w' A n c xs := by
  refine ⟨h.1, h.2.1, h.2.2.1, fun hn => ?_⟩
  obtain ⟨b, o, e, hb, hlt, hc⟩ := h.2.2.2 hn
  have hb' := hk b hb hlt
  refine ⟨b, o, e, hb, ?_, fun i x hx => ?_⟩
  · rcases Nat.lt_or_ge b w'.heap.size with h' | h'
    · exact h'
    · rw [Array.getElem?_eq_none h', Array.getElem?_eq_getElem hlt] at hb'
      cases hb'
  · obtain ⟨cs, h1, h2⟩ := hc i x hx
    exact ⟨cs, d.more (fun k hk => hk.1) (d.keep (fun k hk' => hk k hk'.1 hk'.2) (d.bound h1)), rangeAt_of_heap h2 hb'⟩
theorem Row.more (h : d.Row ok w A n c xs) (hk : ∀ k, ok k → ok' k) : d.Row ok' w A n c xs :=
  ⟨h.1, h.2.1, h.2.2.1, fun hn => let ⟨b, o, e, hb, hlt, hc⟩ := h.2.2.2 hn; ⟨b, o, e, hk b hb, hlt, fun i x hx => let ⟨cs, h1, h2⟩ := hc i x hx; ⟨cs, d.more hk h1, h2⟩⟩⟩
theorem Row.bound (h : d.Row ok w A n c xs) : d.Row (fun k => ok k ∧ k < w.heap.size) w A n c xs :=
  ⟨h.1, h.2.1, h.2.2.1, fun hn => let ⟨b, o, e, hb, hlt, hc⟩ := h.2.2.2 hn; ⟨b, o, e, ⟨hb, hlt⟩, hlt, fun i x hx => let ⟨cs, h1, h2⟩ := hc i x hx; ⟨cs, d.bound h1, h2⟩⟩⟩
theorem Row.below (h : d.Row ok w A n c xs) (hb : Below w.heap.size w w') : d.Row ok w' A n c xs := h.keep fun k _ hk => hb.block k hk
theorem Row.belowB {B : Nat} (h : d.Row (· < B) w A n c xs) (hb : Below B w w') : d.Row (· < B) w' A n c xs := h.keep fun k hk _ => hb.block k hk
theorem Row.nil (d : Kd α) (ok : Nat → Prop) (w : World) (A : Option Addr) (c : Nat) (hc : c ≤ maxLen) : d.Row ok w A 0 c [] := ⟨rfl, Nat.zero_le _, hc, fun h => absurd h (by omega)⟩
theorem Row.drewN (h : d.Row ok w A n c xs) (k : Nat) : d.Row ok (w.drewN k) A n c xs := h.keep fun _ _ _ => rfl
theorem Row.alloc (h : d.Row ok w A n c xs) (o : Obj) : d.Row ok (w.alloc o) A n c xs := h.keep fun k _ hk => Below.heap_alloc w o k hk

theorem Row.clip (h : d.Row ok w A n c xs) : d.Row ok w A n n xs := ⟨h.1, Nat.le_refl _, Nat.le_trans h.2.1 h.2.2.1, h.2.2.2⟩
theorem Row.take (h : d.Row ok w A n c xs) {k : Nat} (hk : k ≤ n) : d.Row ok w A k c (xs.take k) :=
  ⟨by rw [List.length_take, h.1]; omega, Nat.le_trans hk h.2.1, h.2.2.1, fun hn => by
    obtain ⟨b, o, e, hb, hlt, hc⟩ := h.2.2.2 (by omega)
    exact ⟨b, o, e, hb, hlt, fun i x hx => hc i x (by rw [List.getElem?_take] at hx; split at hx <;> simp_all)⟩⟩
theorem Row.drop (h : d.Row ok w A n c xs) {k : Nat} (hk : k ≤ n) : d.Row ok w (if c = k then A else A.map (·.add (k * d.sz))) (n - k) (c - k) (xs.drop k) :=
  ⟨by rw [List.length_drop, h.1], by have := h.2.1; omega, by have := h.2.2.1; omega, fun hn => by
    obtain ⟨b, o, rfl, hb, hlt, hc⟩ := h.2.2.2 (by omega)
    rw [if_neg (by have := h.2.1; omega)]
    refine ⟨b, o + k * d.sz, by simp [Addr.add_mid], hb, hlt, fun i x hx => ?_⟩
    rw [List.getElem?_drop] at hx
    obtain ⟨cs, h1, h2⟩ := hc (k + i) x hx
    refine ⟨cs, h1, ?_⟩
    rw [Nat.add_mul, ← Nat.add_assoc] at h2
    exact h2⟩

/-- x[i]: where it lies, in whatever world the address is reckoned. -/
theorem Row.index {P : Program} {T E : TypeId} (h : d.Row ok w A n c xs) (hT : P.underlying T = some (.slice E)) (hE : (P.info? E).map (·.size) = some d.sz) {i : Nat} {x : α} (hx : xs[i]? = some x) :
    ∃ b o cs, (∀ wx : World, (Instr.indexAt T (.slice A n c) (.int .i64 (i : Int))).run P wx = .ok (.pointer (some ⟨b, o, none⟩)) wx) ∧ ok b ∧ b < w.heap.size ∧ d.K ok w x cs ∧ w.rangeAt b o cs := by
  have hi : i < xs.length := (List.getElem?_eq_some_iff.1 hx).1
  have hn : 0 < n := by have := h.1; omega
  obtain ⟨b, o, e, hb, hlt, hc⟩ := h.2.2.2 hn
  subst e
  obtain ⟨cs, h1, h2⟩ := hc i x hx
  refine ⟨b, o + i * d.sz, cs, fun wx => ?_, hb, hlt, h1, h2⟩
  have hin : i < n := by have := h.1; omega
  cases hq : P.info? E with
  | none => simp [hq] at hE
  | some inf =>
    have hs : inf.size = d.sz := by simpa [hq] using hE
    simp [Instr.indexAt, asIntOf, run_underlying hT, sizeOf, typeInfo, hq, hs, hin, Addr.add]
end

/-- One cell. -/
def cell {α : Type} (enc : α → Value) (h1 : ∀ x, (enc x).oneCell' = true) (good : α → Prop) : Kd α where
  sz := 1
  K _ _ x cs := cs = [enc x] ∧ good x
  len h := by rw [h.1]; rfl
  one h u hu := by rw [h.1] at hu; simp at hu; subst hu; exact h1 _
  keep _ h := h
  more _ h := h
  bound h := h
end Kd

def kU8 : Kd UInt8 := Kd.cell bv (fun _ => rfl) (fun _ => True)
def kStr : Kd ByteArray := Kd.cell Value.string (fun _ => rfl) (fun s => s.size ≤ maxLen)
def kInt : Kd Int := Kd.cell (Value.int .i64) (fun _ => rfl) (fun n => -9223372036854775808 ≤ n ∧ n < 9223372036854775808)
def kBool : Kd Bool := Kd.cell Value.bool (fun _ => rfl) (fun _ => True)

/-- Elements and their cells. -/
def Kd.Els {α : Type} (d : Kd α) (ok : Nat → Prop) (w : World) (xs : List α) (css : List (List Value)) : Prop :=
  css.length = xs.length ∧ ∀ (i : Nat) (x : α) (cs : List Value), xs[i]? = some x → css[i]? = some cs → d.K ok w x cs
/-- A row of the call's own (from block 'base' on): it may be appended to. -/
def Kd.Own {α : Type} (d : Kd α) (ok : Nat → Prop) (base : Nat) (w : World) (E : TypeId) (v : Value) (xs : List α) : Prop :=
  ∃ css : List (List Value), d.Els (fun k => ok k ∧ some k ≠ v.ownBlock) w xs css ∧ w.ownsRow base E d.sz v xs.length css.flatten
/-- A row to which may be appended: the call's own, or one without room. -/
def Kd.App {α : Type} (d : Kd α) (ok : Nat → Prop) (base : Nat) (w : World) (E : TypeId) (v : Value) (xs : List α) : Prop :=
  d.Own ok base w E v xs ∨ ∃ A, v = .slice A xs.length xs.length ∧ d.Row (fun k => ok k ∧ k < base) w A xs.length xs.length xs
/-- What is appended. -/
def Kd.Src {α : Type} (d : Kd α) (ok : Nat → Prop) (w : World) (A : Option Addr) (m : Nat) (ys : List α) : Prop :=
  ys.length = m ∧ ∃ css : List (List Value), d.Els ok w ys css ∧ (0 < m → ∃ b o, A = some ⟨b, o, none⟩ ∧ w.rangeAt b o css.flatten)

theorem Kd.Els.lens {α : Type} {d : Kd α} {ok : Nat → Prop} {w : World} {xs : List α} {css : List (List Value)} (h : d.Els ok w xs css) : ∀ cs ∈ css, cs.length = d.sz := by
  intro cs hcs
  obtain ⟨i, hi, rfl⟩ := List.mem_iff_getElem.1 hcs
  have hx : i < xs.length := by rw [← h.1]; exact hi
  exact d.len (h.2 i _ _ (List.getElem?_eq_getElem hx) (List.getElem?_eq_getElem hi))
theorem flat_len {css : List (List Value)} {s : Nat} (h : ∀ cs ∈ css, cs.length = s) : css.flatten.length = css.length * s := by
  induction css with
  | nil => simp
  | cons c r ih =>
    have h1 := h c (by simp)
    have h2 := ih (fun x hx => h x (by simp [hx]))
    simp only [List.flatten_cons, List.length_append, List.length_cons, h1, h2, Nat.add_mul]
    omega
theorem flat_at {css : List (List Value)} {s : Nat} (h : ∀ cs ∈ css, cs.length = s) {i j : Nat} {cs : List Value} {v : Value} (hi : css[i]? = some cs) (hj : cs[j]? = some v) : css.flatten[i * s + j]? = some v := by
  induction css generalizing i with
  | nil => simp at hi
  | cons c r ih =>
    have h1 := h c (by simp)
    have hj' : j < cs.length := (List.getElem?_eq_some_iff.1 hj).1
    cases i with
    | zero =>
      simp at hi
      subst hi
      simp only [List.flatten_cons, Nat.zero_mul, Nat.zero_add]
      rw [List.getElem?_append_left hj']
      exact hj
    | succ i =>
      simp at hi
      have h2 := ih (fun x hx => h x (by simp [hx])) hi
      simp only [List.flatten_cons]
      rw [List.getElem?_append_right (by rw [h1, Nat.add_mul]; omega), h1]
      rw [show (i + 1) * s + j - s = i * s + j from by rw [Nat.add_mul]; omega]
      exact h2

section
variable {α : Type} {d : Kd α} {ok ok' : Nat → Prop} {base : Nat} {w w' : World} {E : TypeId} {v : Value} {xs ys : List α} {A : Option Addr} {n m c : Nat}
theorem Kd.Els.one {css : List (List Value)} (h : d.Els ok w xs css) : ∀ u ∈ css.flatten, u.oneCell' = true := by
  intro u hu
  obtain ⟨cs, hcs, hu⟩ := List.mem_flatten.1 hu
  obtain ⟨i, hi, rfl⟩ := List.mem_iff_getElem.1 hcs
  have hx : i < xs.length := by rw [← h.1]; exact hi
  exact d.one (h.2 i _ _ (List.getElem?_eq_getElem hx) (List.getElem?_eq_getElem hi)) u hu
theorem Kd.Els.more {css : List (List Value)} (h : d.Els ok w xs css) (hk : ∀ k, ok k → ok' k) : d.Els ok' w xs css := ⟨h.1, fun i x cs hx hc => d.more hk (h.2 i x cs hx hc)⟩
theorem Kd.Els.bound {css : List (List Value)} (h : d.Els ok w xs css) : d.Els (fun k => ok k ∧ k < w.heap.size) w xs css := ⟨h.1, fun i x cs hx hc => d.bound (h.2 i x cs hx hc)⟩
theorem Kd.Els.keep {css : List (List Value)} (h : d.Els ok w xs css) (hk : ∀ k, ok k → k < w.heap.size → w'.heap[k]? = w.heap[k]?) : d.Els ok w' xs css :=
  ⟨h.1, fun i x cs hx hc => d.more (fun _k hk => hk.1) (d.keep (fun k hk' => hk k hk'.1 hk'.2) (d.bound (h.2 i x cs hx hc)))⟩
theorem Kd.Els.append {css dss : List (List Value)} (h : d.Els ok w xs css) (k : d.Els ok w ys dss) : d.Els ok w (xs ++ ys) (css ++ dss) := by
  refine ⟨by simp [h.1, k.1], fun i x cs hx hc => ?_⟩
  rcases Nat.lt_or_ge i xs.length with hi | hi
  · rw [List.getElem?_append_left hi] at hx
    rw [List.getElem?_append_left (by rw [h.1]; exact hi)] at hc
    exact h.2 i x cs hx hc
  · rw [List.getElem?_append_right hi] at hx
    rw [List.getElem?_append_right (by rw [h.1]; exact hi), h.1] at hc
    exact k.2 _ x cs hx hc
theorem Kd.Els.nil (d : Kd α) (ok : Nat → Prop) (w : World) : d.Els ok w [] [] := ⟨rfl, fun i x cs hx => by simp at hx⟩
theorem Kd.Els.single {x : α} {cs : List Value} (h : d.K ok w x cs) : d.Els ok w [x] [cs] := ⟨rfl, fun i y ds hy hd => by
  match i, hy, hd with
  | 0, hy, hd => simp at hy hd; subst hy; subst hd; exact h
  | i + 1, hy, hd => simp at hy⟩

theorem Kd.Own.nil (d : Kd α) (ok : Nat → Prop) (base : Nat) (w : World) (E : TypeId) : d.Own ok base w E (.slice none 0 0) [] := ⟨[], .nil _ _ _, World.ownsRow_nil w base E d.sz⟩
theorem Kd.Own.form (h : d.Own ok base w E v xs) : ∃ A c, v = .slice A xs.length c := by
  obtain ⟨css, _, ho⟩ := h
  rcases ho.2 with ⟨rfl, h0⟩ | ⟨g, cap, cur, rfl, _⟩
  · rw [h0]; exact ⟨_, _, rfl⟩
  · exact ⟨_, _, rfl⟩
theorem Kd.Own.base_le (h : d.Own ok base w E v xs) : ∀ k, v.ownBlock = some k → base ≤ k ∧ k < w.heap.size := by
  obtain ⟨css, _, ho⟩ := h
  exact ho.lt
theorem Kd.Own.keep (h : d.Own ok base w E v xs) (hk : ∀ k, k < w.heap.size → (ok k ∨ some k = v.ownBlock) → w'.heap[k]? = w.heap[k]?) : d.Own ok base w' E v xs := by
  obtain ⟨css, he, ho⟩ := h
  refine ⟨css, he.keep (fun k h1 h2 => hk k h2 (.inl h1.1)), ho.1, ?_⟩
  rcases ho.2 with hn | ⟨g, cap, cur, rfl, hb, hg, r⟩
  · exact .inl hn
  · exact .inr ⟨g, cap, cur, rfl, hb, (hk g (Array.getElem?_eq_some_iff.1 hg).1 (.inr rfl)).trans hg, r⟩
theorem Kd.Own.below (h : d.Own ok base w E v xs) (hb : Below w.heap.size w w') : d.Own ok base w' E v xs := h.keep fun k hk _ => hb.block k hk
theorem Kd.Own.more (h : d.Own ok base w E v xs) (hk : ∀ k, ok k → ok' k) : d.Own ok' base w E v xs :=
  let ⟨css, he, ho⟩ := h; ⟨css, he.more fun k h1 => ⟨hk k h1.1, h1.2⟩, ho⟩
theorem Kd.Own.lower {base' : Nat} (h : d.Own ok base w E v xs) (hb : base' ≤ base) : d.Own ok base' w E v xs := by
  obtain ⟨css, he, ho⟩ := h
  refine ⟨css, he, ho.1, ?_⟩
  rcases ho.2 with hn | ⟨g, cap, cur, rfl, hg, r⟩
  · exact .inl hn
  · exact .inr ⟨g, cap, cur, rfl, Nat.le_trans hb hg, r⟩
/-- What is owned can be read. -/
theorem Kd.Own.row (h : d.Own ok base w E v xs) : ∃ A c, v = .slice A xs.length c ∧ d.Row (fun k => ok k ∨ some k = v.ownBlock) w A xs.length c xs := by
  obtain ⟨css, he, ho⟩ := h
  rcases ho.2 with ⟨rfl, h0⟩ | ⟨g, cap, cur, rfl, hb, hg, hnc, hcm, hcs, htake⟩
  · have hx : xs = [] := List.eq_nil_of_length_eq_zero h0
    subst hx
    exact ⟨none, 0, rfl, Kd.Row.nil _ _ _ _ _ (Nat.zero_le _)⟩
  · refine ⟨_, cap, rfl, rfl, hnc, hcm, fun hn => ⟨g, 0, rfl, .inr rfl, (Array.getElem?_eq_some_iff.1 hg).1, fun i x hx => ?_⟩⟩
    have hi : i < xs.length := (List.getElem?_eq_some_iff.1 hx).1
    have hc : css[i]? = some (css[i]'(by rw [he.1]; exact hi)) := List.getElem?_eq_getElem _
    have hK := he.2 i x _ hx hc
    refine ⟨_, d.more (fun k hk => .inl hk.1) hK, fun j u hu => ?_⟩
    have hf := flat_at he.lens hc hu
    have := ho.cells (g := g) rfl (i * d.sz + j) u hf
    simpa [Addr.add_lit] using this
theorem Kd.Row.src (h : d.Row ok w A n c xs) : d.Src ok w A n xs := by
  classical
  rcases Nat.eq_zero_or_pos n with h0 | h0
  · have hx : xs = [] := List.eq_nil_of_length_eq_zero (by rw [h.1]; exact h0)
    subst hx
    exact ⟨h.1, [], .nil _ _ _, fun hh => absurd hh (by omega)⟩
  · obtain ⟨b, o, e, hb, hlt, hc⟩ := h.2.2.2 h0
    have hex : ∀ i : Fin xs.length, ∃ cs, d.K ok w xs[i] cs ∧ w.rangeAt b (o + i * d.sz) cs := fun i => hc i _ (List.getElem?_eq_getElem i.2)
    refine ⟨h.1, List.ofFn (fun i => (hex i).choose), ?_, fun _ => ⟨b, o, e, ?_⟩⟩
    · refine ⟨by simp, fun i x cs hx hcs => ?_⟩
      have hi : i < xs.length := (List.getElem?_eq_some_iff.1 hx).1
      have hs := (hex ⟨i, hi⟩).choose_spec.1
      rw [List.getElem?_ofFn] at hcs
      simp only [hi, dite_true, Option.some.injEq] at hcs
      rw [← hcs]
      have : xs[i] = x := by have := List.getElem?_eq_getElem hi; rw [hx] at this; exact (Option.some.inj this).symm
      simpa [this] using hs
    · have hl : ∀ cs ∈ List.ofFn (fun i => (hex i).choose), cs.length = d.sz := by
        intro cs hcs
        obtain ⟨i, rfl⟩ := List.mem_ofFn.1 hcs
        exact d.len (hex i).choose_spec.1
      intro j u hu
      have hj : j < xs.length * d.sz := by
        have := (List.getElem?_eq_some_iff.1 hu).1
        rwa [flat_len hl, List.length_ofFn] at this
      have hs : 0 < d.sz := Nat.pos_of_ne_zero (fun e => by rw [e] at hj; omega)
      have hi : j / d.sz < xs.length := (Nat.div_lt_iff_lt_mul hs).2 hj
      have hsp := (hex ⟨j / d.sz, hi⟩).choose_spec
      have hm : j % d.sz < ((hex ⟨j / d.sz, hi⟩).choose).length := by rw [d.len hsp.1]; exact Nat.mod_lt _ hs
      have hcs : (List.ofFn (fun i => (hex i).choose))[j / d.sz]? = some (hex ⟨j / d.sz, hi⟩).choose := by
        rw [List.getElem?_ofFn]; simp [hi]
      have hf := flat_at hl hcs (List.getElem?_eq_getElem hm)
      have hjj : j / d.sz * d.sz + j % d.sz = j := Nat.div_add_mod' j d.sz
      rw [hjj] at hf
      rw [hf] at hu
      have := hsp.2 (j % d.sz) _ (List.getElem?_eq_getElem hm)
      simp only at this
      rw [Nat.add_assoc, hjj] at this
      rw [this, ← hu]
theorem Kd.Src.more (h : d.Src ok w A m ys) (hk : ∀ k, ok k → ok' k) : d.Src ok' w A m ys := let ⟨h1, css, he, hc⟩ := h; ⟨h1, css, he.more hk, hc⟩
theorem Kd.Src.keep (h : d.Src ok w A m ys) (hk : ∀ k, k < w.heap.size → w'.heap[k]? = w.heap[k]?) : d.Src ok w' A m ys := by
  obtain ⟨h1, css, he, hc⟩ := h
  refine ⟨h1, css, he.keep (fun k _ h2 => hk k h2), fun hm => ?_⟩
  obtain ⟨b, o, e, hr⟩ := hc hm
  exact ⟨b, o, e, fun j v hv => (World.cell?_of_block (a := ⟨b, o + j, none⟩) (hk b (World.block_lt_of_cell? w _ (hr j v hv)))).trans (hr j v hv)⟩

/-- append: onto a row without room. -/
theorem Kd.Row.append {P : Program} {T ty : TypeId} {z : Value} {bytes : Nat} (hT : P.underlying T = some (.slice E)) (hinfo : (P.info? E).map (fun i => (i.zero, i.size, i.bytes)) = some (some z, d.sz, bytes))
    (hz : z.cells.size = d.sz) (hsz : 0 < d.sz) (hrow : d.Row ok w A n n xs) {B : Option Addr} (hs : d.Src ok w B m ys) (cy : Nat) (h0 : 0 < m)
    (h63 : n + m ≤ maxLen) (hbytes : (n + m) * bytes ≤ 140737488355328) :
    ∃ v' w', (Builtin.append_ #[T, T] ty #[.slice A n n, .slice B m cy]).run P w = .ok v' w' ∧ d.Own ok w.heap.size w' E v' (xs ++ ys) ∧ Below w.heap.size w w' := by
  obtain ⟨i0, hi, hzz⟩ := Option.map_eq_some_iff.1 hinfo
  simp only [Prod.mk.injEq] at hzz
  obtain ⟨hz0, hz1, hz2⟩ := hzz
  have hn := hrow.1
  subst hn
  obtain ⟨hm, dss, hd, hcell⟩ := hs
  have hdl := flat_len hd.lens
  rw [hd.1, hm] at hdl
  obtain ⟨b, o, rfl, hr⟩ := hcell h0
  have hnews : ∀ j u, dss.flatten[j]? = some u → w.cell? ((⟨b, o, none⟩ : Addr).add j) = some u := fun j u hu => by
    have := hr j u hu
    rwa [Addr.add_mid]
  have h1 := hd.one
  have hne : xs.length + m = (xs ++ ys).length := by simp [hm]
  obtain ⟨_, css, hc, hcl⟩ := hrow.src
  have hcl0 := flat_len hc.lens
  rw [hc.1] at hcl0
  have hold : ∀ (A0 : Addr), A = some A0 → ∀ j u, css.flatten[j]? = some u → w.cell? (A0.add j) = some u := by
    intro A0 hA j u hu
    have hpos : 0 < xs.length := by
      rcases Nat.eq_zero_or_pos xs.length with h' | h'
      · have := (List.getElem?_eq_some_iff.1 hu).1; rw [hcl0, h'] at this; omega
      · exact h'
    obtain ⟨b', o', e, hr'⟩ := hcl hpos
    rw [hA] at e
    have e := Option.some.inj e
    subst e
    rw [Addr.add_mid]; exact hr' j u hu
  have done : ∃ v' w', (Builtin.append_ #[T, T] ty #[.slice A xs.length xs.length, .slice (some ⟨b, o, none⟩) m cy]).run P w = .ok v' w' ∧ w'.ownsRow w.heap.size E d.sz v' (xs.length + m) (css.flatten ++ dss.flatten) ∧ w.grownBy w' none := by
    cases A with
    | none =>
      have h0' : xs.length = 0 := by
        rcases Nat.eq_zero_or_pos xs.length with h' | h'
        · exact h'
        · obtain ⟨b', o', e, _⟩ := hcl h'; cases e
      have hx : xs = [] := List.eq_nil_of_length_eq_zero h0'
      subst hx
      have hcn : css.flatten = [] := List.eq_nil_of_length_eq_zero (by rw [hcl0]; simp)
      rw [hcn]
      obtain ⟨v', w', hrun, h2, h3, _, _⟩ := run_append_own_at (P := P) w w.heap.size T ty E i0 z d.sz bytes hT hi hz0 hz1 hz2 hz hsz (.slice none 0 0) 0 [] (World.ownsRow_nil w _ E d.sz) ⟨b, o, none⟩ m cy dss.flatten hdl hnews h1 (by simpa using h63) (by simpa using hbytes) (Nat.le_refl _)
      exact ⟨v', w', hrun, h2, h3⟩
    | some A0 =>
      exact run_append_arg_grows (P := P) w T ty E i0 z d.sz bytes hT hi hz0 hz1 hz2 hz hsz A0 xs.length xs.length css.flatten hcl0 (hold A0 rfl) ⟨b, o, none⟩ m cy dss.flatten hdl hnews (by omega) h63 hbytes
  obtain ⟨v', w', hrun, ho, hg⟩ := done
  have hblk : ∀ k, k < w.heap.size → w'.heap[k]? = w.heap[k]? := fun k hk => hg.block k hk (by simp)
  have hv' : ∀ k, v'.ownBlock = some k → w.heap.size ≤ k := fun k hk => (ho.lt k hk).1
  refine ⟨v', w', hrun, ⟨css ++ dss, ?_, by rw [← hne, List.flatten_append]; exact ho⟩, ⟨hg.os, hg.tape, hg.output, hg.size, hblk⟩⟩
  have h2 : d.Els (fun k => (ok k ∧ some k ≠ v'.ownBlock) ∧ k < w.heap.size) w (xs ++ ys) (css ++ dss) :=
    (hc.append hd).bound.more (fun k hk => ⟨⟨hk.1, fun e => by have := hv' k e.symm; omega⟩, hk.2⟩)
  exact (h2.keep (fun k h3 _ => hblk k h3.2)).more (fun k hk => hk.1)

/-- append: onto what may be appended to. -/
theorem Kd.App.append {P : Program} {T ty : TypeId} {z : Value} {bytes : Nat} (hT : P.underlying T = some (.slice E)) (hinfo : (P.info? E).map (fun i => (i.zero, i.size, i.bytes)) = some (some z, d.sz, bytes))
    (hz : z.cells.size = d.sz) (hsz : 0 < d.sz) (h : d.App ok base w E v xs) (hs : d.Src (fun k => ok k ∧ some k ≠ v.ownBlock) w A m ys) (hbase : base ≤ w.heap.size) (cy : Nat)
    (h63 : xs.length + m ≤ maxLen) (hbytes : (xs.length + m) * bytes ≤ 140737488355328) :
    ∃ v' w', (Builtin.append_ #[T, T] ty #[v, .slice A m cy]).run P w = .ok v' w' ∧ d.App ok base w' E v' (xs ++ ys) ∧ (0 < m ∨ d.Own ok base w E v xs → d.Own ok base w' E v' (xs ++ ys)) ∧ Below base w w' ∧
      (∀ k, k < w.heap.size → some k ≠ v.ownBlock → w'.heap[k]? = w.heap[k]?) ∧ (v'.ownBlock = v.ownBlock ∨ ∃ k, v'.ownBlock = some k ∧ w.heap.size ≤ k) := by
  rcases Nat.eq_zero_or_pos m with h0 | h0
  · obtain ⟨i0, hi, hzz⟩ := Option.map_eq_some_iff.1 hinfo
    subst h0
    have hy : ys = [] := List.eq_nil_of_length_eq_zero hs.1
    subst hy
    refine ⟨v, w, ?_, by simpa using h, fun hh => (by simpa using hh.resolve_left (by omega)), Below.refl _ _, fun _ _ _ => rfl, .inl rfl⟩
    have hf : ∃ Av nv cv, v = .slice Av nv cv ∧ nv ≤ cv := by
      rcases h with ⟨css, _, ho⟩ | ⟨Av, rfl, hr⟩
      · rcases ho.2 with ⟨rfl, h0⟩ | ⟨g, cap, cur, rfl, _, _, hnc, _⟩
        · exact ⟨_, _, _, rfl, Nat.le_refl _⟩
        · exact ⟨_, _, _, rfl, hnc⟩
      · exact ⟨_, _, _, rfl, Nat.le_refl _⟩
    obtain ⟨Av, nv, cv, rfl, hnc⟩ := hf
    cases Av <;> cases A <;> simp [Builtin.append_, run_underlying hT, sizeOf, typeInfo, hi, Builtin.lenOf, Builtin.firstCells, hnc, storeCells, loadCells, loadCellsFrom]
  · rcases h with ⟨css, he, ho⟩ | ⟨Av, rfl, hrow⟩
    · obtain ⟨i0, hi, hzz⟩ := Option.map_eq_some_iff.1 hinfo
      simp only [Prod.mk.injEq] at hzz
      obtain ⟨hz0, hz1, hz2⟩ := hzz
      obtain ⟨hm, dss, hd, hcell⟩ := hs
      have hdl := flat_len hd.lens
      rw [hd.1, hm] at hdl
      obtain ⟨b, o, rfl, hr⟩ := hcell h0
      have hnews : ∀ j u, dss.flatten[j]? = some u → w.cell? ((⟨b, o, none⟩ : Addr).add j) = some u := fun j u hu => by
        have := hr j u hu
        rwa [Addr.add_mid]
      have hne : xs.length + m = (xs ++ ys).length := by simp [hm]
      obtain ⟨v', w', hrun, h2, h3, _, h5⟩ := run_append_own_at (P := P) w base T ty E i0 z d.sz bytes hT hi hz0 hz1 hz2 hz hsz v xs.length css.flatten ho ⟨b, o, none⟩ m cy dss.flatten hdl hnews hd.one h63 hbytes hbase
      have h6 : v'.ownBlock = v.ownBlock ∨ ∃ k, v'.ownBlock = some k ∧ w.heap.size ≤ k := h5.imp id (fun e => ⟨_, e, Nat.le_refl _⟩)
      have hown : d.Own ok base w' E v' (xs ++ ys) := by
        refine ⟨css ++ dss, ?_, by rw [← hne, List.flatten_append]; exact h2⟩
        have h2 := ((he.append hd).bound.more (ok' := fun k => (ok k ∧ some k ≠ v'.ownBlock) ∧ some k ≠ v.ownBlock ∧ k < w.heap.size) (fun k hk => ⟨⟨hk.1.1, ?_⟩, hk.1.2, hk.2⟩))
        · exact (h2.keep (fun k h3' h4 => h3.block k h4 h3'.2.1)).more (fun k hk => hk.1)
        · rcases h6 with e | ⟨k', e, hk'⟩
          · rw [e]; exact hk.1.2
          · rw [e]; intro e2; have := Option.some.inj e2; omega
      exact ⟨v', w', hrun, .inl hown, fun _ => hown, (Below.refl _ _).grown h3 hbase (fun k hk => (ho.lt k hk).1), h3.block, h6⟩
    · obtain ⟨v', w', hrun, hown, hb⟩ := (hrow.more (ok' := ok) (fun k hk => hk.1)).append (P := P) (T := T) (ty := ty) hT hinfo hz hsz (hs.more (ok' := ok) (fun k hk => hk.1)) cy h0 h63 hbytes
      have hown' := hown.lower hbase
      refine ⟨v', w', hrun, .inl hown', fun _ => hown', hb.mono hbase, fun k hk _ => hb.block k hk, ?_⟩
      obtain ⟨A', c', rfl⟩ := hown.form
      have hb' := hown.base_le
      obtain ⟨css, _, ho⟩ := hown
      rcases ho.2 with ⟨_, h0'⟩ | ⟨g, cap, cur, e, hg', hgg, _⟩
      · have := hs.1; rw [List.length_append] at h0'; omega
      · rw [e]; exact .inr ⟨g, rfl, hg'⟩

/-- append, at the operation. -/
theorem wp_app {P : Program} {op : Oper} {a : Act} {K : Act → World → Prop} {Q : Exit → Act → World → Prop} (s x : Operand) (T : TypeId)
    (ho : op.op = .call { callee := .builtin .append, args := #[s, x], argTypes := #[T, T] }) {z : Value} {bytes : Nat} (hT : P.underlying T = some (.slice E)) (hinfo : (P.info? E).map (fun i => (i.zero, i.size, i.bytes)) = some (some z, d.sz, bytes))
    (hz : z.cells.size = d.sz) (hsz : 0 < d.sz) (cy : Nat) (hs : a.eval s = v) (hx : a.eval x = .slice A m cy) (h : d.App ok base w E v xs) (hsrc : d.Src (fun k => ok k ∧ some k ≠ v.ownBlock) w A m ys) (hbase : base ≤ w.heap.size)
    (h63 : xs.length + m ≤ maxLen) (hbytes : (xs.length + m) * bytes ≤ 140737488355328)
    (k : ∀ v' w', d.App ok base w' E v' (xs ++ ys) → (0 < m ∨ d.Own ok base w E v xs → d.Own ok base w' E v' (xs ++ ys)) → Below base w w' → (∀ k, k < w.heap.size → some k ≠ v.ownBlock → w'.heap[k]? = w.heap[k]?) →
      (v'.ownBlock = v.ownBlock ∨ ∃ k, v'.ownBlock = some k ∧ w.heap.size ≤ k) → K (a.put op.dst v') w') : op.wp P a w K Q := by
  obtain ⟨v', w', hrun, h1, h2, h3, h4, h5⟩ := h.append (P := P) (T := T) (ty := op.type) hT hinfo hz hsz hsrc hbase cy h63 hbytes
  unfold Oper.wp execOp
  simp only [ho, resolve, invoke, builtin, Sem.run_bind, Sem.run_pure, Result.andThen_ok, List.map_toArray, List.map_cons, List.map_nil, hs, hx, hrun]
  exact k v' w' h1 h2 h3 h4 h5
/-- append, where the walk stands at it. -/
theorem wpList_app {P : Program} {ops : Array Oper} {rest : List Oper} {op : Oper} {a : Act} {Q : Exit → Act → World → Prop} (hgd : op.guard = none) (s x : Operand) (T : TypeId)
    (ho : op.op = .call { callee := .builtin .append, args := #[s, x], argTypes := #[T, T] }) {z : Value} {bytes : Nat} (hT : P.underlying T = some (.slice E)) (hinfo : (P.info? E).map (fun i => (i.zero, i.size, i.bytes)) = some (some z, d.sz, bytes))
    (hz : z.cells.size = d.sz) (hsz : 0 < d.sz) (cy : Nat) (hs : a.eval s = v) (hx : a.eval x = .slice A m cy) (h : d.App ok base w E v xs) (hsrc : d.Src (fun k => ok k ∧ some k ≠ v.ownBlock) w A m ys) (hbase : base ≤ w.heap.size)
    (h63 : xs.length + m ≤ maxLen) (hbytes : (xs.length + m) * bytes ≤ 140737488355328)
    (k : ∀ v' w', d.App ok base w' E v' (xs ++ ys) → (0 < m ∨ d.Own ok base w E v xs → d.Own ok base w' E v' (xs ++ ys)) → Below base w w' → (∀ k, k < w.heap.size → some k ≠ v.ownBlock → w'.heap[k]? = w.heap[k]?) →
      (v'.ownBlock = v.ownBlock ∨ ∃ k, v'.ownBlock = some k ∧ w.heap.size ≤ k) → wpList P ops Q rest (a.put op.dst v') w') : wpList P ops Q (op :: rest) a w :=
  wpList_plain hgd fun _ hK => wp_app s x T ho hT hinfo hz hsz cy hs hx h hsrc hbase h63 hbytes fun v' w' h1 h2 h3 h4 h5 => hK _ _ (k v' w' h1 h2 h3 h4 h5)
/-- append, in a region that draws its order. -/
theorem step_app {P : Program} {ops : Array Oper} {op : Oper} {a : Act} {K : Act → World → Prop} {Q : Exit → Act → World → Prop} {X : Prop} (hgd : op.guard = none) (s x : Operand) (T : TypeId)
    (ho : op.op = .call { callee := .builtin .append, args := #[s, x], argTypes := #[T, T] }) {z : Value} {bytes : Nat} (hT : P.underlying T = some (.slice E)) (hinfo : (P.info? E).map (fun i => (i.zero, i.size, i.bytes)) = some (some z, d.sz, bytes))
    (hz : z.cells.size = d.sz) (hsz : 0 < d.sz) (cy : Nat) (hs : a.eval s = v) (hx : a.eval x = .slice A m cy) (h : d.App ok base w E v xs) (hsrc : d.Src (fun k => ok k ∧ some k ≠ v.ownBlock) w A m ys) (hbase : base ≤ w.heap.size)
    (h63 : xs.length + m ≤ maxLen) (hbytes : (xs.length + m) * bytes ≤ 140737488355328)
    (k : ∀ v' w', d.App ok base w' E v' (xs ++ ys) → (0 < m ∨ d.Own ok base w E v xs → d.Own ok base w' E v' (xs ++ ys)) → Below base w w' → (∀ k, k < w.heap.size → some k ≠ v.ownBlock → w'.heap[k]? = w.heap[k]?) →
      (v'.ownBlock = v.ownBlock ∨ ∃ k, v'.ownBlock = some k ∧ w.heap.size ≤ k) → K (a.put op.dst v') w') :
    if Region.wanted op (yielded ops a.tmps) = true then op.wp P a w K Q else X := by
  rw [if_pos (by simp [Region.wanted, hgd])]
  exact wp_app s x T ho hT hinfo hz hsz cy hs hx h hsrc hbase h63 hbytes k
/-- append onto a row without room, at the operation; where the walk stands at it; in a region that draws its order. -/
theorem wp_full {P : Program} {op : Oper} {a : Act} {K : Act → World → Prop} {Q : Exit → Act → World → Prop} (s x : Operand) (T : TypeId)
    (ho : op.op = .call { callee := .builtin .append, args := #[s, x], argTypes := #[T, T] }) {z : Value} {bytes : Nat} (hT : P.underlying T = some (.slice E)) (hinfo : (P.info? E).map (fun i => (i.zero, i.size, i.bytes)) = some (some z, d.sz, bytes))
    (hz : z.cells.size = d.sz) (hsz : 0 < d.sz) (cy : Nat) {B : Option Addr} (hs : a.eval s = .slice A n n) (hx : a.eval x = .slice B m cy) (hrow : d.Row ok w A n n xs) (hsrc : d.Src ok w B m ys) (h0 : 0 < m)
    (h63 : n + m ≤ maxLen) (hbytes : (n + m) * bytes ≤ 140737488355328)
    (k : ∀ v' w', d.Own ok w.heap.size w' E v' (xs ++ ys) → Below w.heap.size w w' → K (a.put op.dst v') w') : op.wp P a w K Q := by
  obtain ⟨v', w', hrun, h1, h2⟩ := hrow.append (P := P) (T := T) (ty := op.type) hT hinfo hz hsz hsrc cy h0 h63 hbytes
  unfold Oper.wp execOp
  simp only [ho, resolve, invoke, builtin, Sem.run_bind, Sem.run_pure, Result.andThen_ok, List.map_toArray, List.map_cons, List.map_nil, hs, hx, hrun]
  exact k v' w' h1 h2
theorem wpList_full {P : Program} {ops : Array Oper} {rest : List Oper} {op : Oper} {a : Act} {Q : Exit → Act → World → Prop} (hgd : op.guard = none) (s x : Operand) (T : TypeId)
    (ho : op.op = .call { callee := .builtin .append, args := #[s, x], argTypes := #[T, T] }) {z : Value} {bytes : Nat} (hT : P.underlying T = some (.slice E)) (hinfo : (P.info? E).map (fun i => (i.zero, i.size, i.bytes)) = some (some z, d.sz, bytes))
    (hz : z.cells.size = d.sz) (hsz : 0 < d.sz) (cy : Nat) {B : Option Addr} (hs : a.eval s = .slice A n n) (hx : a.eval x = .slice B m cy) (hrow : d.Row ok w A n n xs) (hsrc : d.Src ok w B m ys) (h0 : 0 < m)
    (h63 : n + m ≤ maxLen) (hbytes : (n + m) * bytes ≤ 140737488355328)
    (k : ∀ v' w', d.Own ok w.heap.size w' E v' (xs ++ ys) → Below w.heap.size w w' → wpList P ops Q rest (a.put op.dst v') w') : wpList P ops Q (op :: rest) a w :=
  wpList_plain hgd fun _ hK => wp_full s x T ho hT hinfo hz hsz cy hs hx hrow hsrc h0 h63 hbytes fun v' w' h1 h2 => hK _ _ (k v' w' h1 h2)
theorem step_full {P : Program} {ops : Array Oper} {op : Oper} {a : Act} {K : Act → World → Prop} {Q : Exit → Act → World → Prop} {X : Prop} (hgd : op.guard = none) (s x : Operand) (T : TypeId)
    (ho : op.op = .call { callee := .builtin .append, args := #[s, x], argTypes := #[T, T] }) {z : Value} {bytes : Nat} (hT : P.underlying T = some (.slice E)) (hinfo : (P.info? E).map (fun i => (i.zero, i.size, i.bytes)) = some (some z, d.sz, bytes))
    (hz : z.cells.size = d.sz) (hsz : 0 < d.sz) (cy : Nat) {B : Option Addr} (hs : a.eval s = .slice A n n) (hx : a.eval x = .slice B m cy) (hrow : d.Row ok w A n n xs) (hsrc : d.Src ok w B m ys) (h0 : 0 < m)
    (h63 : n + m ≤ maxLen) (hbytes : (n + m) * bytes ≤ 140737488355328)
    (k : ∀ v' w', d.Own ok w.heap.size w' E v' (xs ++ ys) → Below w.heap.size w w' → K (a.put op.dst v') w') :
    if Region.wanted op (yielded ops a.tmps) = true then op.wp P a w K Q else X := by
  rw [if_pos (by simp [Region.wanted, hgd])]
  exact wp_full s x T ho hT hinfo hz hsz cy hs hx hrow hsrc h0 h63 hbytes k
/-- One new element, laid in a block of its own. -/
theorem Kd.Src.new {x : α} {cs : List Value} (h : d.K ok w x cs) (C : Array Value) (hC : C.toList = cs) (H : Nat) (hH : w.heap.size = H) : d.Src ok (w.alloc (.cells C E)) (some ⟨H, 0, none⟩) 1 [x] := by
  subst hH
  refine ⟨rfl, [cs], (Kd.Els.single h).keep (fun k _ hk => Below.heap_alloc w _ k hk), fun _ => ⟨_, 0, rfl, fun j u hu => ?_⟩⟩
  rw [cell_of_row _ _ _ C E (0, 0) (heap_alloc_new w _)]
  simp only [List.flatten_cons, List.flatten_nil, List.append_nil] at hu
  rw [← hC] at hu
  simpa using hu
theorem Kd.Src.blk {x : α} {cs : List Value} {C : Array Value} {g : Nat} {fr : Nat × Nat} (hg : w.heap[g]? = some (.cells C E fr)) (h : d.K ok w x cs) (hC : C.toList = cs) : d.Src ok w (some ⟨g, 0, none⟩) 1 [x] := by
  refine ⟨rfl, [cs], Kd.Els.single h, fun _ => ⟨_, 0, rfl, fun j u hu => ?_⟩⟩
  rw [cell_of_row _ _ _ C E fr hg]
  simp only [List.flatten_cons, List.flatten_nil, List.append_nil] at hu
  rw [← hC] at hu
  simpa using hu
theorem Kd.App.keep (h : d.App ok base w E v xs) (_hb : base ≤ w.heap.size) (hk : ∀ k, k < w.heap.size → (k < base ∨ ok k ∨ some k = v.ownBlock) → w'.heap[k]? = w.heap[k]?) : d.App ok base w' E v xs := by
  rcases h with h | ⟨A, rfl, h⟩
  · exact .inl (h.keep fun k h1 h2 => hk k h1 (.inr h2))
  · exact .inr ⟨A, rfl, h.keep fun k h1 h2 => hk k h2 (.inl h1.2)⟩
theorem Kd.App.alloc (h : d.App ok base w E v xs) (hb : base ≤ w.heap.size) (o : Obj) : d.App ok base (w.alloc o) E v xs := h.keep hb fun k hk _ => Below.heap_alloc w o k hk
theorem Kd.App.below (h : d.App ok base w E v xs) (hb : base ≤ w.heap.size) (hw : Below w.heap.size w w') : d.App ok base w' E v xs := h.keep hb fun k hk _ => hw.block k hk
theorem Kd.App.form (h : d.App ok base w E v xs) : ∃ A c, v = .slice A xs.length c := by
  rcases h with h | ⟨A, rfl, _⟩
  · exact h.form
  · exact ⟨_, _, rfl⟩
end

/-- A row that is laid out whole. -/
theorem Kd.Own.lit {α : Type} {d : Kd α} {ok : Nat → Prop} {base : Nat} {w : World} {E : TypeId} {xs : List α} {css : List (List Value)} (h : d.Els ok w xs css) (C : Array Value) (hC : C.toList = css.flatten) (n : Nat) (hn : xs.length = n) (hm : n ≤ maxLen) (H : Nat) (hH : w.heap.size = H) (hb : base ≤ H) :
    d.Own ok base (w.alloc (.cells C E)) E (.slice (some ⟨H, 0, none⟩) n n) xs := by
  subst hH
  have hl := flat_len h.lens
  rw [h.1, hn] at hl
  refine ⟨css, ((h.bound.more (ok' := fun k => (ok k ∧ some k ≠ some w.heap.size) ∧ k < w.heap.size) (fun k hk => ⟨⟨hk.1, fun e => by have := Option.some.inj e; omega⟩, hk.2⟩)).keep (fun k _ hk => Below.heap_alloc w _ k hk)).more (fun k hk => hk.1), ?_⟩
  rw [hn]
  refine ⟨hl, .inr ⟨w.heap.size, n, C, rfl, hb, heap_alloc_new w _, Nat.le_refl _, hm, ?_, ?_⟩⟩
  · rw [← Array.length_toList, hC, hl]
  · rw [hC, List.take_of_length_le (by omega)]

theorem kU8_row {w : World} {ok : Nat → Prop} {x : UInt8} {cs : List Value} (h : kU8.K ok w x cs) : cs = [bv x] := h.1

end Go.Proofs.YtckcadhjpjjmjaaDoor
