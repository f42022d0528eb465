/- A digest in memory; the walks of digest.New and digest.Clone. No condition. -/
import Derived.Test.YtdkeflhgengblaaDoorDig1
import Derived.Test.YtdkeflhgengblaaDoorFil
namespace Go.Proofs.YtdkeflhgengblaaDoor
open Go.RowKit
/-- 64 bytes. -/
structure B64 where
  l : List UInt8
  len : l.length = 64
def B64.zero : B64 := ⟨List.replicate 64 0, by simp⟩
/-- A digest's cells. -/
def dgC (h : S8) (r : B64) (n : Value) : Array Value := (h.list.map wv ++ r.l.map bv ++ [n]).toArray
section
variable (h h' : S8) (r r' : B64) (n m : Value)
theorem dgL_len : (h.list.map wv ++ r.l.map bv).length = 72 := by simp [S8.list, r.len]
theorem dgC_size : (dgC h r n).size = 73 := by
  rw [dgC, List.size_toArray, List.length_append, dgL_len]; rfl
theorem dgC_72 : (dgC h r n)[72]? = some n := by
  rw [dgC, List.getElem?_toArray, List.getElem?_append_right (by rw [dgL_len]; exact Nat.le_refl _), dgL_len]; rfl
theorem dgC_part : part? (dgC h r n) 0 73 = some (dgC h r n) := part_self _ _ (dgC_size h r n)
theorem dgC_h : part? (dgC h r n) 0 8 = some (s8C h) := by
  unfold part?
  rw [dgC_size, if_pos (by decide)]
  congr 1
  apply Array.ext_getElem?
  intro i
  rw [Array.getElem?_extract, dgC_size]
  show (if i < 8 then (dgC h r n)[0 + i]? else none) = _
  rw [s8C_wl, wlC_get, Nat.zero_add]
  split
  · rw [dgC, List.getElem?_toArray, List.append_assoc, List.getElem?_append_left (by simp [S8.list]; omega), List.getElem?_map]
  · rw [List.getElem?_eq_none (by simp [S8.list]; omega)]; rfl
theorem dgC_r : part? (dgC h r n) 8 64 = some (blC r.l) := by
  unfold part?
  rw [dgC_size, if_pos (by decide)]
  congr 1
  apply Array.ext_getElem?
  intro i
  rw [Array.getElem?_extract, dgC_size]
  show (if i < 64 then (dgC h r n)[8 + i]? else none) = _
  rw [blC_get]
  have hr := r.len
  split
  · rw [dgC, List.getElem?_toArray, List.append_assoc, List.getElem?_append_right (by simp [S8.list]), List.getElem?_append_left (by simp [S8.list]; omega), List.getElem?_map]
    congr 2
    simp [S8.list]
  · rw [List.getElem?_eq_none (by omega)]; rfl
theorem dgC_splice_h : splice (dgC h r n) 0 (s8C h') = dgC h' r n := by
  have e : (h.list.map wv).length = 8 := rfl
  rw [splice, s8C_wl, wlC_size]
  show (List.take 0 (dgC h r n).toList ++ (wlC h'.list).toList ++ List.drop 8 (dgC h r n).toList).toArray = _
  simp only [dgC, wlC, List.take_zero, List.nil_append, List.append_assoc]
  rw [← e, List.drop_left]
theorem dgC_set : (dgC h r n).setIfInBounds 72 m = dgC h r m := by
  apply Array.ext_getElem?
  intro i
  rw [Array.getElem?_setIfInBounds, dgC_size]
  by_cases hi : 72 = i
  · subst hi
    rw [if_pos rfl, if_pos (by decide), dgC_72]
  · rw [if_neg hi, dgC, dgC, List.getElem?_toArray, List.getElem?_toArray]
    rcases Nat.lt_or_ge i 72 with h1 | h1
    · rw [List.getElem?_append_left (l₁ := h.list.map wv ++ r.l.map bv) (by rw [dgL_len]; exact h1), List.getElem?_append_left (l₁ := h.list.map wv ++ r.l.map bv) (by rw [dgL_len]; exact h1)]
    · rw [List.getElem?_eq_none (by rw [List.length_append, dgL_len]; simp; omega), List.getElem?_eq_none (by rw [List.length_append, dgL_len]; simp; omega)]
theorem splice_mid {L R N C : List Value} {o : Nat} (hL : L.length = 8) (hR : o + C.length ≤ R.length) : (L ++ R ++ N).take (8 + o) ++ C ++ (L ++ R ++ N).drop (8 + o + C.length) = L ++ (R.take o ++ C ++ R.drop (o + C.length)) ++ N := by
  have h1 : (L ++ (R ++ N)).take (8 + o) = L ++ R.take o := by
    rw [List.take_append, List.take_of_length_le (by omega), hL, show 8 + o - 8 = o by omega, List.take_append_of_le_length (by omega)]
  have h2 : (L ++ (R ++ N)).drop (8 + o + C.length) = R.drop (o + C.length) ++ N := by
    rw [List.drop_append, List.drop_eq_nil_of_le (by omega), hL, show 8 + o + C.length - 8 = o + C.length by omega, List.drop_append_of_le_length (by omega), List.nil_append]
  rw [List.append_assoc L R N, h1, h2]
  simp only [List.append_assoc]
theorem dgC_splice_r (o : Nat) (c : List UInt8) (hr : r'.l = r.l.take o ++ c ++ r.l.drop (o + c.length)) (ho : o + c.length ≤ 64) : splice (dgC h r n) (8 + o) (blC c) = dgC h r' n := by
  have hl := r.len
  have e := splice_mid (L := h.list.map wv) (R := r.l.map bv) (N := [n]) (C := c.map bv) (o := o) rfl (by simp only [List.length_map]; omega)
  rw [List.length_map] at e
  rw [splice, blC_size]
  show (List.take (8 + o) (h.list.map wv ++ r.l.map bv ++ [n]) ++ (c.map bv) ++ List.drop (8 + o + c.length) (h.list.map wv ++ r.l.map bv ++ [n])).toArray = _
  rw [e, dgC, hr]
  simp only [List.map_append, List.map_take, List.map_drop]
theorem dgC_one (k : IntKind) (z : Int) : oneAll (dgC h r (.int k z)) = true := by
  rw [oneAll, Array.all_eq_true_iff_forall_mem]
  intro x hx
  simp only [dgC, List.mem_toArray, List.mem_append, List.mem_map, List.mem_singleton] at hx
  rcases hx with (⟨b, _, rfl⟩ | ⟨b, _, rfl⟩) | rfl <;> rfl
theorem dgC_splice0 (C : Array Value) (hC : C.size = 73) : splice C 0 (dgC h r n) = dgC h r n := splice0 _ _ (by rw [hC, dgC_size])
theorem dgC_ne : (dgC h r n = #[]) = False := eq_false fun e => by
  have := congrArg Array.size e
  rw [dgC_size] at this
  cases this
theorem zero_dg : (#[.int .u32 0, .int .u32 0, .int .u32 0, .int .u32 0, .int .u32 0, .int .u32 0, .int .u32 0, .int .u32 0, .int .u8 0, .int .u8 0, .int .u8 0, .int .u8 0, .int .u8 0, .int .u8 0, .int .u8 0, .int .u8 0, .int .u8 0, .int .u8 0, .int .u8 0, .int .u8 0, .int .u8 0, .int .u8 0, .int .u8 0, .int .u8 0, .int .u8 0, .int .u8 0, .int .u8 0, .int .u8 0, .int .u8 0, .int .u8 0, .int .u8 0, .int .u8 0, .int .u8 0, .int .u8 0, .int .u8 0, .int .u8 0, .int .u8 0, .int .u8 0, .int .u8 0, .int .u8 0, .int .u8 0, .int .u8 0, .int .u8 0, .int .u8 0, .int .u8 0, .int .u8 0, .int .u8 0, .int .u8 0, .int .u8 0, .int .u8 0, .int .u8 0, .int .u8 0, .int .u8 0, .int .u8 0, .int .u8 0, .int .u8 0, .int .u8 0, .int .u8 0, .int .u8 0, .int .u8 0, .int .u8 0, .int .u8 0, .int .u8 0, .int .u8 0, .int .u8 0, .int .u8 0, .int .u8 0, .int .u8 0, .int .u8 0, .int .u8 0, .int .u8 0, .int .u8 0, .int .u64 0] : Array Value) = dgC s8z B64.zero (.int .u64 0) := rfl
theorem ld73 (a : Addr) : loadCellsFrom a 0 73 #[] = ldAgg a 73 := rfl
end
theorem built_dig (s : S8) : Tryd.prog.built 158 [(0, .agg (s8C s))] = some (dgC s B64.zero (.int .u64 0)) := by
  have hz : (Tryd.prog.info? 158).map (fun i => (i.zero, i.size)) = some (some (.agg #[.int .u32 0, .int .u32 0, .int .u32 0, .int .u32 0, .int .u32 0, .int .u32 0, .int .u32 0, .int .u32 0, .int .u8 0, .int .u8 0, .int .u8 0, .int .u8 0, .int .u8 0, .int .u8 0, .int .u8 0, .int .u8 0, .int .u8 0, .int .u8 0, .int .u8 0, .int .u8 0, .int .u8 0, .int .u8 0, .int .u8 0, .int .u8 0, .int .u8 0, .int .u8 0, .int .u8 0, .int .u8 0, .int .u8 0, .int .u8 0, .int .u8 0, .int .u8 0, .int .u8 0, .int .u8 0, .int .u8 0, .int .u8 0, .int .u8 0, .int .u8 0, .int .u8 0, .int .u8 0, .int .u8 0, .int .u8 0, .int .u8 0, .int .u8 0, .int .u8 0, .int .u8 0, .int .u8 0, .int .u8 0, .int .u8 0, .int .u8 0, .int .u8 0, .int .u8 0, .int .u8 0, .int .u8 0, .int .u8 0, .int .u8 0, .int .u8 0, .int .u8 0, .int .u8 0, .int .u8 0, .int .u8 0, .int .u8 0, .int .u8 0, .int .u8 0, .int .u8 0, .int .u8 0, .int .u8 0, .int .u8 0, .int .u8 0, .int .u8 0, .int .u8 0, .int .u8 0, .int .u64 0]), 73) := by kernel_rfl
  obtain ⟨i0, hi, hzz⟩ := Option.map_eq_some_iff.1 hz
  simp only [Prod.mk.injEq] at hzz
  obtain ⟨hz0, hz1⟩ := hzz
  rw [zero_dg] at hz0
  have hp : #[(⟨"h", 156, 0, false, "", "chitty/digest", 0⟩ : Field), (⟨"rest", 153, 8, false, "", "chitty/digest", 32⟩ : Field), (⟨"many", 41, 72, false, "", "chitty/digest", 96⟩ : Field)].toList.mapM (fun f => (Tryd.prog.info? f.type).map fun i => (f.offset, i.size)) = some [(0, 8), (8, 64), (72, 1)] := by kernel_rfl
  unfold Program.built
  rw [hi, Tryd.underlying158]
  simp only [hz0]
  rw [hp]
  simp only [Value.cells]
  rw [fill_cons (o := 0) (n := 8) rfl rfl (by rw [dgC_size]; decide), dgC_splice_h]
  rfl
theorem wp_buildDig {o : Oper} {a0 : Act} {w : World} {K : Act → World → Prop} {Q : Exit → Act → World → Prop} (x : Operand) (ho : o.op = .build 158 #[(0, x)]) (s : S8) (hx : a0.eval x = .agg (s8C s))
    (h : K (a0.put o.dst (.agg (dgC s B64.zero (.int .u64 0)))) w) : o.wp Tryd.prog a0 w K Q := by
  have e : (Array.map (fun x => (x.fst, a0.eval x.snd)) #[(0, x)]).toList = [(0, .agg (s8C s))] := by simp [hx]
  have hb := (congrArg (Tryd.prog.built 158) e).trans (built_dig s)
  refine wp_build 158 #[(0, x)] ho (by rw [hb]; rfl) ?_
  rw [hb]
  exact h
set_option maxRecDepth 100000 in
theorem at_buildDig {ops : Array Oper} {rest : List Oper} {a0 : Act} {w : World} {Q : Exit → Act → World → Prop} {dst : Option Tmp} {ty : TypeId} {pos : String} {after : Array Edge} {x : Operand} (s : S8) (hx : a0.eval x = .agg (s8C s))
    (h : wpList Tryd.prog ops Q rest (a0.put dst (.agg (dgC s B64.zero (.int .u64 0)))) w) : wpList Tryd.prog ops Q (⟨dst, .build 158 #[(0, x)], ty, pos, after, none⟩ :: rest) a0 w :=
  wpList_plain rfl fun _ hK => wp_buildDig x rfl s hx (hK _ _ h)
/-- A digest to which bytes were written. -/
def DigAt (w : World) (g : Nat) (xs : List UInt8) : Prop :=
  ∃ (h : S8) (tail : List UInt8) (r : B64), w.heap[g]? = some (.cells (dgC h r (.int .u64 (xs.length : Int))) 158) ∧ Split xs h tail ∧ r.l.take tail.length = tail
theorem DigAt.of_heap {w w' : World} {g : Nat} {xs : List UInt8} (h : DigAt w g xs) (hb : w'.heap[g]? = w.heap[g]?) : DigAt w' g xs := let ⟨a, b, c, h1, h2⟩ := h; ⟨a, b, c, hb.trans h1, h2⟩
theorem DigAt.lt {w : World} {g : Nat} {xs : List UInt8} (h : DigAt w g xs) : g < w.heap.size := let ⟨_, _, _, h1, _⟩ := h; (Array.getElem?_eq_some_iff.1 h1).1
theorem DigAt.ext {w w' : World} {g : Nat} {xs : List UInt8} (h : DigAt w g xs) (hb : Below w.heap.size w w') : DigAt w' g xs := h.of_heap (hb.block g h.lt)
attribute [local go_sem ↓] ld8 ld64 ld73
attribute [local go_sem] run_ldAgg run_storeAgg agg_alloc_at agg_alloc_past agg_drew agg_setCell row_alloc_at row_alloc_past row_drew setRow_alloc_at setRow_alloc_past setRow_drew agg_setRow_at agg_setRow_far cell_setRow_at cell_setRow_far row_setRow_far size_setRow s8C_size s8C_part s8C_one s8C_splice0 s8C_ne dgC_size dgC_72 dgC_part dgC_h dgC_r dgC_splice_h dgC_set dgC_one dgC_splice0 dgC_ne zero_dg
set_option maxRecDepth 100000 in
set_option maxHeartbeats 400000 in
theorem c_dnew (w : World) : Calls Tryd.prog 100 #[] w fun e w' => ∃ g, e = .returned (.pointer (some ⟨g, 0, none⟩)) ∧ w.heap.size ≤ g ∧ DigAt w' g [] ∧ Below w.heap.size w w' := by
  go_enter Tryd.func100, Tryd.ntmps100
  go_wp2_with fail
  refine (c_wstart w).mono ?_
  rintro e w1 ⟨rfl, b1⟩
  have HB1 := hide b1
  clear b1
  go_wp2_with ((with_reducible show wpList _ _ _ (Oper.mk (some 2) _ _ _ _ _ :: _) _ _); go_loud (refine at_buildDig S8.start rfl ?_))
  go_ret
  exact ⟨_, rfl, HB1.out.size, ⟨S8.start, [], B64.zero, heap_alloc_new _ _, Split.start, rfl⟩, bnext HB1.out (below1 _ _)⟩
set_option maxRecDepth 100000 in
set_option maxHeartbeats 400000 in
theorem c_dclone (g : Nat) (xs : List UInt8) (w : World) (hD : DigAt w g xs) : Calls Tryd.prog 71 #[.pointer (some ⟨g, 0, none⟩)] w fun e w' => ∃ g', e = .returned (.pointer (some ⟨g', 0, none⟩)) ∧ w.heap.size ≤ g' ∧ DigAt w' g' xs ∧ Below w.heap.size w w' := by
  obtain ⟨h, tail, r, hg, hsp, htl⟩ := hD
  have hag : agg? w ⟨g, 0, none⟩ 73 = some (dgC h r (.int .u64 (xs.length : Int))) := (agg_of_row hg 0 73 (by decide)).trans (dgC_part _ _ _)
  have hgs := (Array.getElem?_eq_some_iff.1 hg).1
  have HSP := hide hsp
  have HTL := hide htl
  clear hsp htl hg
  go_enter Tryd.func71, Tryd.ntmps71
  go_wp2_with fail
  go_ret
  exact ⟨_, rfl, Nat.le_refl _, ⟨h, tail, r, heap_alloc_new _ _, HSP.out, HTL.out⟩, below1 _ _⟩
end Go.Proofs.YtdkeflhgengblaaDoor
