/- Bytes: texts out of rows and rows out of texts; a text's bytes appended. No condition. -/
import Derived.Test.YtckcadhjpjjmjaaDoorRep
import Derived.Lib.ConvBytes
import Derived.Lib.AppendStr
import Derived.Laws.BytesArg
namespace Go.Proofs.YtckcadhjpjjmjaaDoor
open Go.RowKit

/-- The text of some bytes. -/
abbrev txt (l : List UInt8) : ByteArray := ⟨l.toArray⟩
abbrev byt (s : ByteArray) : List UInt8 := s.data.toList
theorem txt_byt (s : ByteArray) : txt (byt s) = s := by cases s; simp [byt]
theorem byt_txt (l : List UInt8) : byt (txt l) = l := by show l.toArray.toList = l; rw [List.toList_toArray]
theorem byt_len (s : ByteArray) : (byt s).length = s.size := by show s.data.toList.length = s.data.size; rw [Array.length_toList]
theorem txt_size (l : List UInt8) : (txt l).size = l.length := by simp [ByteArray.size]

section
variable {P : Program} {ok : Nat → Prop} {base : Nat} {w w' : World} {E : TypeId} {v : Value} {xs ys : List UInt8} {A : Option Addr} {n m c : Nat}

theorem src8 {ok' : Nat → Prop} (h : kU8.Src ok w A m xs) : kU8.Src ok' w A m xs := let ⟨h1, css, he, hc⟩ := h; ⟨h1, css, ⟨he.1, fun i x cs hx hcs => he.2 i x cs hx hcs⟩, hc⟩
theorem row8 {ok' : Nat → Prop} (h : kU8.Row ok w A n c xs) (hk : ∀ k, k < w.heap.size → ok k → ok' k) : kU8.Row ok' w A n c xs :=
  h.bound.more fun k hk' => hk k hk'.2 hk'.1
theorem row_bytes (h : kU8.Row ok w A n c xs) (hn : 0 < n) : ∃ b o, A = some ⟨b, o, none⟩ ∧ ok b ∧ b < w.heap.size ∧ ∀ i x, xs[i]? = some x → w.cell? ⟨b, o + i, none⟩ = some (bv x) := by
  obtain ⟨b, o, e, hb, hlt, hc⟩ := h.2.2.2 hn
  refine ⟨b, o, e, hb, hlt, fun i x hx => ?_⟩
  obtain ⟨cs, h1, h2⟩ := hc i x hx
  rw [h1.1] at h2
  have := h2 0 (bv x) rfl
  simpa [kU8, Kd.cell] using this
/-- string(bytes) -/
theorem row_string {S D : TypeId} (hS : P.underlying S = some (.slice E)) (hE : P.underlying E = some (.int .u8)) (hD : P.underlying D = some .string) (h : kU8.Row ok w A n c xs) :
    (convert S D (.slice A n c)).run P w = .ok (.string (txt xs)) w := by
  rcases Nat.eq_zero_or_pos n with h0 | h0
  · have hx : xs = [] := List.eq_nil_of_length_eq_zero (by rw [h.1]; exact h0)
    subst hx h0
    cases A with
    | none => exact run_convert_bytes_nil w S E hS hE 0 c D hD
    | some a =>
      have hl : (loadCells a 0).run P w = .ok (([] : List Int).map (Value.int .u8)).toArray w := by simp [loadCells, loadCellsFrom]
      rw [run_convert_bytes_string w S D E _ 0 c hS hE hD, run_bytesToString w a 0 c [] hl]
      rfl
  · obtain ⟨b, o, rfl, _, _, hc⟩ := row_bytes h h0
    have hlen : (xs.map fun x => (x.toNat : Int)).length = n := by simpa using h.1
    rw [run_convert_bytes_arg w S E hS hE b o n c (xs.map fun x => (x.toNat : Int)) hlen (fun i hi => ?_) D hD]
    · congr 2
      simp only [strOfNums, txt]
      congr 2
      rw [List.map_map]
      conv => rhs; rw [← List.map_id xs]
      apply List.map_congr_left
      intro x _
      simp
    · have hx : i < xs.length := by rw [h.1]; exact hi
      rw [hc i _ (List.getElem?_eq_getElem hx)]
      simp [List.getElem?_eq_getElem hx]
/-- []byte(text) -/
theorem bytes_new (w : World) (E : TypeId) (s : ByteArray) (hs : s.size ≤ 9223372036854775807) : kU8.Row (fun k => k = w.heap.size) (Lib.bytesWorld w E s) (some ⟨w.heap.size, 0, none⟩) s.size (grownCap w s.size 0 E) (byt s) := by
  refine ⟨byt_len s, grownCap_ge _ _ _ _, grownCap_le_maxLen _ _ _ _ (by simp only [maxLen]; omega), fun hn => ⟨_, 0, rfl, rfl, by rw [Lib.bytesWorld_size]; omega, fun i x hx => ⟨[bv x], ⟨rfl, trivial⟩, fun j u hu => ?_⟩⟩⟩
  have hi : i < s.size := by have := (List.getElem?_eq_some_iff.1 hx).1; rwa [byt_len] at this
  match j, hu with
  | 0, hu =>
    simp at hu
    subst hu
    have := Lib.bytesWorld_cell w E s i hi
    simp only [kU8, Kd.cell, Nat.mul_one, Nat.zero_add, Nat.add_zero]
    rw [this, List.getD_eq_getElem?_getD]
    simp only [byt] at hx
    rw [hx]
    rfl
  | j + 1, hu => simp at hu
theorem bytesWorld_below (w : World) (E : TypeId) (s : ByteArray) : Below w.heap.size w (Lib.bytesWorld w E s) := by
  refine ⟨?_, ?_, ?_, by rw [Lib.bytesWorld_size]; omega, fun k hk => Lib.bytesWorld_at_old w E s k hk⟩ <;> simp [Lib.bytesWorld, World.freeze, World.drew, World.alloc, -World.alloc_eq, -World.drew_eq]
theorem wpList_tobytes {ops : Array Oper} {rest : List Oper} {op : Oper} {a : Act} {Q : Exit → Act → World → Prop} (hgd : op.guard = none) (S D : TypeId) (x : Operand) (ho : op.op = .convert S D x) (s : ByteArray) (hx : a.eval x = .string s)
    (hS : P.underlying S = some .string) (hD : P.underlying D = some (.slice E)) (hE : P.underlying E = some (.int .u8)) (hs : s.size ≤ 9223372036854775807) (H : Nat) (hH : w.heap.size = H)
    (k : ∀ c w', kU8.Row (fun k => k = H) w' (some ⟨H, 0, none⟩) s.size c (byt s) → Below H w w' → H < w'.heap.size → wpList P ops Q rest (a.put op.dst (.slice (some ⟨H, 0, none⟩) s.size c)) w') : wpList P ops Q (op :: rest) a w := by
  subst hH
  refine wpList_plain hgd fun K hK => ?_
  unfold Oper.wp execOp
  simp only [ho, hx, Sem.run_bind, Sem.run_pure, Result.andThen_ok, Lib.run_convert_string_bytes w S D E s hS hD hE]
  exact hK _ _ (k _ _ (bytes_new w E s hs) (bytesWorld_below w E s) (by rw [Lib.bytesWorld_size]; omega))

/-- append of a text's bytes. -/
theorem App.append_str {T U ty : TypeId} (hT : P.underlying T = some (.slice E)) (hU : P.underlying U = some .string) (hinfo : (P.info? E).map (fun i => (i.zero, i.size, i.bytes)) = some (some (.int .u8 0), 1, 1))
    (h : kU8.App ok base w E v xs) (hbase : base ≤ w.heap.size) (s : ByteArray) (hlen : xs.length + s.size ≤ 140737488355328) :
    ∃ v' w', (Builtin.append_ #[T, U] ty #[v, .string s]).run P w = .ok v' w' ∧ kU8.App ok base w' E v' (xs ++ byt s) ∧ (0 < s.size ∨ kU8.Own ok base w E v xs → kU8.Own ok base w' E v' (xs ++ byt s)) ∧ Below base w w' ∧
      (∀ k, k < w.heap.size → some k ≠ v.ownBlock → w'.heap[k]? = w.heap[k]?) ∧ (v'.ownBlock = v.ownBlock ∨ ∃ k, v'.ownBlock = some k ∧ w.heap.size ≤ k) := by
  obtain ⟨i0, hi, hzz⟩ := Option.map_eq_some_iff.1 hinfo
  simp only [Prod.mk.injEq] at hzz
  obtain ⟨hz0, hz1, hz2⟩ := hzz
  have hsl : (Lib.strCells s).length = s.size := Lib.strCells_length s
  have hcel : ∀ l : List UInt8, (l.map fun x => [bv x]).flatten = l.map bv := fun l => by induction l <;> simp_all
  have hels : ∀ (W : World) (o : Nat → Prop) (l : List UInt8), kU8.Els o W l (l.map fun x => [bv x]) := fun W o l =>
    ⟨by simp, fun i x cs hx hc => by simp [List.getElem?_map, hx] at hc; subst hc; exact ⟨rfl, trivial⟩⟩
  have hstr : Lib.strCells s = (byt s).map bv := rfl
  have fin : ∀ (v' : Value) (w' : World), w'.ownsRow base E 1 v' (xs.length + s.size) (xs.map bv ++ Lib.strCells s) → kU8.Own ok base w' E v' (xs ++ byt s) := by
    intro v' w' ho
    refine ⟨(xs ++ byt s).map fun x => [bv x], hels _ _ _, ?_⟩
    rw [hcel, List.map_append, List.length_append, byt_len]
    exact ho
  have new : ∀ (cap : Nat) (Wn : World) (cells : Array Value), Wn = w.drew.alloc (.cells cells E) → xs.length + s.size ≤ cap → cap ≤ maxLen → cells.size = cap → cells.toList.take (xs.length + s.size) = xs.map bv ++ Lib.strCells s →
      Wn.ownsRow base E 1 (.slice (some ⟨w.heap.size, 0, none⟩) (xs.length + s.size) cap) (xs.length + s.size) (xs.map bv ++ Lib.strCells s) ∧ Below base w Wn ∧ (∀ k, k < w.heap.size → Wn.heap[k]? = w.heap[k]?) := by
    rintro cap Wn cells rfl h1 h2 h3 h4
    refine ⟨⟨by simp [hsl], .inr ⟨w.heap.size, cap, cells, rfl, hbase, heap_alloc_new w.drew _, h1, h2, by simpa using h3, by simpa using h4⟩⟩, ⟨rfl, rfl, rfl, by simp, fun k hk => Below.heap_alloc w.drew _ k (by show k < w.heap.size; omega)⟩, fun k hk => Below.heap_alloc w.drew _ k hk⟩
  have take_ok : ∀ (a b : List Value) (z : Array Value), a.length = xs.length → b.length = s.size → (a.toArray ++ b.toArray ++ z).toList.take (xs.length + s.size) = a ++ b := by
    intro a b z ha hb
    simp only [Array.toList_append, List.append_assoc]
    rw [← List.append_assoc, show xs.length + s.size = (a ++ b).length from by simp [ha, hb]]
    exact List.take_left
  have size_ok : ∀ (a b : List Value) (cap : Nat), a.length = xs.length → b.length = s.size → xs.length + s.size ≤ cap → (a.toArray ++ b.toArray ++ Builtin.zeroCells (Value.int .u8 0).cells (cap - (xs.length + s.size))).size = cap := by
    intro a b cap ha hb hc
    have hz1 : (Value.int IntKind.u8 0).cells.size = 1 := rfl
    simp only [Array.size_append, List.size_toArray, size_zeroCells, hz1, ha, hb]
    omega
  have grow : ∀ (b : Addr) (cap : Nat), (∀ j u, (xs.map bv)[j]? = some u → w.cell? (b.add j) = some u) → cap < xs.length + s.size →
      ∃ v' w', (Builtin.append_ #[T, U] ty #[.slice (some b) xs.length cap, .string s]).run P w = .ok v' w' ∧ w'.ownsRow base E 1 v' (xs.length + s.size) (xs.map bv ++ Lib.strCells s) ∧ Below base w w' ∧ (∀ k, k < w.heap.size → w'.heap[k]? = w.heap[k]?) ∧ v'.ownBlock = some w.heap.size := by
    intro b cap hc hlt
    have hr := Lib.run_append_grow_string (P := P) w T U ty E i0 (.int .u8 0) hT hU hi hz0 b xs.length cap (xs.map bv) (by simp [hz1]) hc s hlt (by omega) (by rw [hz2]; exact growslice_fits (by omega) (by omega))
    have hge := grownCap_ge w (xs.length + s.size) cap E
    have hle := grownCap_le_maxLen w (xs.length + s.size) cap E (by simp only [maxLen]; omega)
    obtain ⟨n1, n2, n3⟩ := new _ _ _ rfl hge hle (size_ok _ _ _ (by simp) hsl hge) (take_ok _ _ _ (by simp) hsl)
    exact ⟨_, _, hr, n1, n2, n3, rfl⟩
  have zero : s.size = 0 → ∀ Av nv cv, v = .slice Av nv cv → nv ≤ cv → (Builtin.append_ #[T, U] ty #[v, .string s]).run P w = .ok v w := by
    intro h0 Av nv cv hv hnc
    have hf := Lib.run_firstCells_string (P := P) w 1 s
    have he : Lib.strCells s = [] := List.eq_nil_of_length_eq_zero (by rw [hsl]; exact h0)
    rw [h0, he] at hf
    subst hv
    cases Av <;> simp [Builtin.append_, run_underlying hT, run_underlying hU, sizeOf, typeInfo, hi, hz1, Builtin.lenOf, h0, hnc, hf, storeCells]
  by_cases h0 : s.size = 0
  · have hy : byt s = [] := List.eq_nil_of_length_eq_zero (by rw [byt_len]; exact h0)
    rw [hy, List.append_nil]
    have hf : ∃ Av nv cv, v = .slice Av nv cv ∧ nv ≤ cv := by
      rcases h with ⟨css, _, ho⟩ | ⟨Av, rfl, hr⟩
      · rcases ho.2 with ⟨rfl, h0⟩ | ⟨g, cap, cur, rfl, _, _, hnc, _⟩
        · exact ⟨_, _, _, rfl, Nat.le_refl _⟩
        · exact ⟨_, _, _, rfl, hnc⟩
      · exact ⟨_, _, _, rfl, Nat.le_refl _⟩
    obtain ⟨Av, nv, cv, hv, hnc⟩ := hf
    exact ⟨v, w, zero h0 Av nv cv hv hnc, h, fun hh => hh.resolve_left (by omega), Below.refl _ _, fun _ _ _ => rfl, .inl rfl⟩
  · have wrap : ∀ {v' : Value} {w' : World}, w'.ownsRow base E 1 v' (xs.length + s.size) (xs.map bv ++ Lib.strCells s) → kU8.App ok base w' E v' (xs ++ byt s) ∧ (0 < s.size ∨ kU8.Own ok base w E v xs → kU8.Own ok base w' E v' (xs ++ byt s)) := fun ho => ⟨.inl (fin _ _ ho), fun _ => fin _ _ ho⟩
    have nilcase : (Builtin.append_ #[T, U] ty #[.slice none 0 0, .string s]).run P w = .ok (.slice (some ⟨w.heap.size, 0, none⟩) s.size (grownCap w s.size 0 E)) (w.drew.alloc (.cells (([] : List Value).toArray ++ (Lib.strCells s).toArray ++ Builtin.zeroCells (Value.int .u8 0).cells (grownCap w s.size 0 E - (0 + s.size))) E)) := by
      have hr := run_append_nil_string (P := P) w T U ty E i0 (.int .u8 0) hT hU hi hz0 s (by omega) (by omega) (by rw [hz2]; omega)
      have e1 : (s.data.map fun b => Value.int .u8 b.toNat) = (Lib.strCells s).toArray := by
        apply Array.ext'
        simp [Lib.strCells]
      rw [e1] at hr
      simpa using hr
    have fromnil : xs = [] → v = .slice none 0 0 → ∃ v' w', (Builtin.append_ #[T, U] ty #[v, .string s]).run P w = .ok v' w' ∧ w'.ownsRow base E 1 v' (xs.length + s.size) (xs.map bv ++ Lib.strCells s) ∧ Below base w w' ∧ (∀ k, k < w.heap.size → w'.heap[k]? = w.heap[k]?) ∧ v'.ownBlock = some w.heap.size := by
      rintro rfl rfl
      have hge := grownCap_ge w s.size 0 E
      have hle := grownCap_le_maxLen w s.size 0 E (by simp only [maxLen]; omega)
      obtain ⟨n1, n2, n3⟩ := new (grownCap w s.size 0 E) _ _ rfl (by simpa using hge) hle (size_ok [] _ _ rfl hsl (by simpa using hge)) (take_ok [] _ _ rfl hsl)
      exact ⟨_, _, nilcase, by simpa using n1, n2, n3, rfl⟩
    rcases h with ⟨css, he, ho⟩ | ⟨Av, rfl, hrow⟩
    · have hcss : css.flatten = xs.map bv := by
        have : css = xs.map fun x => [bv x] := by
          apply List.ext_getElem?
          intro i
          rw [List.getElem?_map]
          by_cases hi' : i < xs.length
          · have h1 : xs[i]? = some xs[i] := List.getElem?_eq_getElem hi'
            have h2 : css[i]? = some (css[i]'(by rw [he.1]; exact hi')) := List.getElem?_eq_getElem _
            rw [h2, h1, (he.2 i _ _ h1 h2).1]
            rfl
          · rw [List.getElem?_eq_none (by rw [he.1]; omega), List.getElem?_eq_none (by omega)]; rfl
        rw [this, hcel]
      rw [hcss] at ho
      rcases ho.2 with ⟨rfl, h0'⟩ | ⟨g, cap, cur, rfl, hbg, hg, hnc, hcm, hcs, htake⟩
      · obtain ⟨v', w', hr, h1, h2, h3, h4⟩ := fromnil (List.eq_nil_of_length_eq_zero h0') rfl
        exact ⟨v', w', hr, (wrap h1).1, (wrap h1).2, h2, fun k hk _ => h3 k hk, .inr ⟨_, h4, Nat.le_refl _⟩⟩
      · have hcs' : cur.size = cap := by simpa [kU8, Kd.cell] using hcs
        have ht' : cur.toList.take xs.length = xs.map bv := by simpa [kU8, Kd.cell] using htake
        by_cases hroom : xs.length + s.size ≤ cap
        · have hr := Lib.run_append_room_string (P := P) w T U ty E i0 hT hU hi hz1 g xs.length cap cur hg s hroom (by omega)
          have ho' : (w.setRow g (cur.toList.take xs.length ++ Lib.strCells s ++ cur.toList.drop (xs.length + s.size)).toArray).ownsRow base E 1 (.slice (some ⟨g, 0, none⟩) (xs.length + s.size) cap) (xs.length + s.size) (xs.map bv ++ Lib.strCells s) := by
            refine ⟨by simp [hsl], .inr ⟨g, cap, _, rfl, hbg, setRow_heap w g cur _ E _ hg, hroom, hcm, ?_, ?_⟩⟩
            · simp only [List.size_toArray, List.length_append, List.length_take, List.length_drop, Array.length_toList, hsl]
              omega
            · rw [ht', show (xs.length + s.size) * 1 = (xs.map bv ++ Lib.strCells s).length from by simp [hsl]]
              exact List.take_left
          have hother : ∀ k, some k ≠ some g → (w.setRow g (cur.toList.take xs.length ++ Lib.strCells s ++ cur.toList.drop (xs.length + s.size)).toArray).heap[k]? = w.heap[k]? := fun k hk => setRow_other w g k _ (fun e => hk (by rw [e]))
          exact ⟨_, _, hr, (wrap ho').1, (wrap ho').2, ⟨rfl, rfl, rfl, by simp, fun k hk => hother k (fun e => by have := Option.some.inj e; omega)⟩, fun k _ hk => hother k (by simpa [Value.ownBlock] using hk), .inl rfl⟩
        · obtain ⟨v', w', hr, h1, h2, h3, h4⟩ := grow ⟨g, 0, none⟩ cap (ho.cells (g := g) rfl) (by omega)
          exact ⟨v', w', hr, (wrap h1).1, (wrap h1).2, h2, fun k hk _ => h3 k hk, .inr ⟨_, h4, Nat.le_refl _⟩⟩
    · cases Av with
      | none =>
        have hx : xs = [] := by
          rcases Nat.eq_zero_or_pos xs.length with h' | h'
          · exact List.eq_nil_of_length_eq_zero h'
          · obtain ⟨b', o', e, _⟩ := hrow.2.2.2 h'; cases e
        subst hx
        obtain ⟨v', w', hr, h1, h2, h3, h4⟩ := fromnil rfl rfl
        exact ⟨v', w', hr, (wrap h1).1, (wrap h1).2, h2, fun k hk _ => h3 k hk, .inr ⟨_, h4, Nat.le_refl _⟩⟩
      | some A0 =>
        obtain ⟨v', w', hr, h1, h2, h3, h4⟩ := grow A0 xs.length (fun j u hu => by
          have hj : j < xs.length := by have := (List.getElem?_eq_some_iff.1 hu).1; simpa using this
          obtain ⟨b', o', e, _, _, hc⟩ := row_bytes hrow (by omega)
          have e := Option.some.inj e
          subst e
          rw [Addr.add_mid]
          rw [List.getElem?_map, List.getElem?_eq_getElem hj] at hu
          have hu := Option.some.inj hu
          rw [← hu]
          exact hc j _ (List.getElem?_eq_getElem hj)) (by omega)
        exact ⟨v', w', hr, (wrap h1).1, (wrap h1).2, h2, fun k hk _ => h3 k hk, .inr ⟨_, h4, Nat.le_refl _⟩⟩

theorem wp_app_str {op : Oper} {a : Act} {K : Act → World → Prop} {Q : Exit → Act → World → Prop} (sl x : Operand) (T U : TypeId) (ho : op.op = .call { callee := .builtin .append, args := #[sl, x], argTypes := #[T, U] })
    (hT : P.underlying T = some (.slice E)) (hU : P.underlying U = some .string) (hinfo : (P.info? E).map (fun i => (i.zero, i.size, i.bytes)) = some (some (.int .u8 0), 1, 1)) (s : ByteArray) (hs : a.eval sl = v) (hx : a.eval x = .string s)
    (h : kU8.App ok base w E v xs) (hbase : base ≤ w.heap.size) (hlen : xs.length + s.size ≤ 140737488355328)
    (k : ∀ v' w', kU8.App ok base w' E v' (xs ++ byt s) → (0 < s.size ∨ kU8.Own ok base w E v xs → kU8.Own ok base w' E v' (xs ++ byt s)) → Below base w w' → (∀ k, k < w.heap.size → some k ≠ v.ownBlock → w'.heap[k]? = w.heap[k]?) →
      (v'.ownBlock = v.ownBlock ∨ ∃ k, v'.ownBlock = some k ∧ w.heap.size ≤ k) → K (a.put op.dst v') w') : op.wp P a w K Q := by
  obtain ⟨v', w', hrun, h1, h2, h3, h4, h5⟩ := App.append_str (P := P) (T := T) (U := U) (ty := op.type) hT hU hinfo h hbase s hlen
  unfold Oper.wp execOp
  simp only [ho, resolve, invoke, builtin, Sem.run_bind, Sem.run_pure, Result.andThen_ok, List.map_toArray, List.map_cons, List.map_nil, hs, hx, hrun]
  exact k v' w' h1 h2 h3 h4 h5
theorem wpList_app_str {ops : Array Oper} {rest : List Oper} {op : Oper} {a : Act} {Q : Exit → Act → World → Prop} (hgd : op.guard = none) (sl x : Operand) (T U : TypeId) (ho : op.op = .call { callee := .builtin .append, args := #[sl, x], argTypes := #[T, U] })
    (hT : P.underlying T = some (.slice E)) (hU : P.underlying U = some .string) (hinfo : (P.info? E).map (fun i => (i.zero, i.size, i.bytes)) = some (some (.int .u8 0), 1, 1)) (s : ByteArray) (hs : a.eval sl = v) (hx : a.eval x = .string s)
    (h : kU8.App ok base w E v xs) (hbase : base ≤ w.heap.size) (hlen : xs.length + s.size ≤ 140737488355328)
    (k : ∀ v' w', kU8.App ok base w' E v' (xs ++ byt s) → (0 < s.size ∨ kU8.Own ok base w E v xs → kU8.Own ok base w' E v' (xs ++ byt s)) → Below base w w' → (∀ k, k < w.heap.size → some k ≠ v.ownBlock → w'.heap[k]? = w.heap[k]?) →
      (v'.ownBlock = v.ownBlock ∨ ∃ k, v'.ownBlock = some k ∧ w.heap.size ≤ k) → wpList P ops Q rest (a.put op.dst v') w') : wpList P ops Q (op :: rest) a w :=
  wpList_plain hgd fun _ hK => wp_app_str sl x T U ho hT hU hinfo s hs hx h hbase hlen fun v' w' h1 h2 h3 h4 h5 => hK _ _ (k v' w' h1 h2 h3 h4 h5)
theorem step_app_str {ops : Array Oper} {op : Oper} {a : Act} {K : Act → World → Prop} {Q : Exit → Act → World → Prop} {X : Prop} (hgd : op.guard = none) (sl x : Operand) (T U : TypeId) (ho : op.op = .call { callee := .builtin .append, args := #[sl, x], argTypes := #[T, U] })
    (hT : P.underlying T = some (.slice E)) (hU : P.underlying U = some .string) (hinfo : (P.info? E).map (fun i => (i.zero, i.size, i.bytes)) = some (some (.int .u8 0), 1, 1)) (s : ByteArray) (hs : a.eval sl = v) (hx : a.eval x = .string s)
    (h : kU8.App ok base w E v xs) (hbase : base ≤ w.heap.size) (hlen : xs.length + s.size ≤ 140737488355328)
    (k : ∀ v' w', kU8.App ok base w' E v' (xs ++ byt s) → (0 < s.size ∨ kU8.Own ok base w E v xs → kU8.Own ok base w' E v' (xs ++ byt s)) → Below base w w' → (∀ k, k < w.heap.size → some k ≠ v.ownBlock → w'.heap[k]? = w.heap[k]?) →
      (v'.ownBlock = v.ownBlock ∨ ∃ k, v'.ownBlock = some k ∧ w.heap.size ≤ k) → K (a.put op.dst v') w') :
    if Region.wanted op (yielded ops a.tmps) = true then op.wp P a w K Q else X := by
  rw [if_pos (by simp [Region.wanted, hgd])]
  exact wp_app_str sl x T U ho hT hU hinfo s hs hx h hbase hlen k
end

end Go.Proofs.YtckcadhjpjjmjaaDoor
