/- The walks of layer 23: keys. No condition. -/
import Derived.Test.YtlfhbnajopekpaaKey1
import Derived.Test.YtlfhbnajopekpaaReg2
import Derived.Test.YtlfhbnajopekpaaPkt7
namespace Go.Proofs.Ytlfhbnajopekpaa
open Go.RowKit
open Go.Maps (Keyed)
attribute [local go_sem ↓] ld32 ld35
attribute [local go_sem] run_ldAgg run_storeAgg agg_alloc_at agg_alloc_past agg_drew agg_setCell row_alloc_at row_alloc_past row_drew setRow_alloc_at setRow_alloc_past setRow_drew agg_setRow_at agg_setRow_far cell_setRow_at cell_setRow_far row_setRow_far size_setRow tgC_size tgC_one tgC_part tgC_splice tgC_splice_any zero_tg tgC_ne keyC_size keyC_g0 keyC_g33 keyC_g34 keyC_0 keyC_33 keyC_34 keyC_part keyC_tag keyC_splice0 keyC_set33 keyC_set34 zero_key keyC_all keyC_ne
/-- Keys. -/
structure Ks where
  most : Nat
  last : Nat
  F : Nat → Option Ky
  s : Nat
def KeysAt (w : World) (g b : Nat) (S : Ks) : Prop :=
  w.heap[g]? = some (.cells #[.int .i64 (S.most : Int), .int .u64 (S.last : Int), .map (some b)] 109) ∧ KMap w b S.F S.s
/-- Two blocks may have turned. -/
structure But (g b : Nat) (w w' : World) : Prop where
  os : w'.os = w.os
  tape : w'.tape = w.tape
  output : w'.output = w.output
  size : w.heap.size ≤ w'.heap.size
  block : ∀ k, k < w.heap.size → k ≠ g → k ≠ b → w'.heap[k]? = w.heap[k]?
section
variable {g b s : Nat} {w w' w'' : World} {S : Ks} {F : Nat → Option Ky}
theorem But.refl (g b : Nat) (w : World) : But g b w w := ⟨rfl, rfl, rfl, Nat.le_refl _, fun _ _ _ _ => rfl⟩
theorem But.trans (h : But g b w w') (k : But g b w' w'') : But g b w w'' :=
  ⟨k.os.trans h.os, k.tape.trans h.tape, k.output.trans h.output, Nat.le_trans h.size k.size, fun i hi h1 h2 => (k.block i (Nat.lt_of_lt_of_le hi h.size) h1 h2).trans (h.block i hi h1 h2)⟩
theorem But.ext (h : Below w.heap.size w w') : But g b w w' := ⟨h.os, h.tape, h.output, h.size, fun k hk _ _ => h.block k hk⟩
theorem But.below {B : Nat} (h : But g b w w') (h1 : B ≤ g) (h2 : B ≤ b) (h3 : B ≤ w.heap.size) : Below B w w' :=
  ⟨h.os, h.tape, h.output, h.size, fun k hk => h.block k (Nat.lt_of_lt_of_le hk h3) (by omega) (by omega)⟩
theorem But.grown (h : w.grownBy w' (some b)) : But g b w w' := ⟨h.os, h.tape, h.output, h.size, fun k hk _ h2 => h.block k hk (fun e => h2 (Option.some.inj e))⟩
theorem But.setCell (o : Nat) (v : Value) : But g b w (w.setCell ⟨g, o, none⟩ v) := by
  refine ⟨rfl, rfl, rfl, by simp, fun k _ h _ => Below.heap_setCell _ _ _ _ h⟩
theorem KMap.ext (h : KMap w b F s) (hb : Below w.heap.size w w') : KMap w' b F s := h.of_heap (hb.block b h.lt)
theorem KeysAt.ext (h : KeysAt w g b S) (hb : Below w.heap.size w w') : KeysAt w' g b S := ⟨(hb.block g (Array.getElem?_eq_some_iff.1 h.1).1).trans h.1, h.2.ext hb⟩
theorem KeysAt.ne (h : KeysAt w g b S) : g ≠ b := by
  rintro rfl
  obtain ⟨D, ⟨es, clock, h1, _⟩, _⟩ := h.2
  have := h.1.symm.trans h1
  cases this
theorem KeysAt.other {g' b' : Nat} (h : KeysAt w g b S) (hb : But g' b' w w') (h1 : g ≠ g') (h2 : g ≠ b') (h3 : b ≠ g') (h4 : b ≠ b') : KeysAt w' g b S :=
  ⟨(hb.block g (Array.getElem?_eq_some_iff.1 h.1).1 h1 h2).trans h.1, h.2.of_heap (hb.block b h.2.lt h3 h4)⟩
end
section
variable {w : World} {ops : Array Oper} {rest : List Oper} {o : Oper} {a : Act} {Q : Exit → Act → World → Prop} {b s : Nat} {F : Nat → Option Ky}
theorem wpList_klook (hg : o.guard = none) (m x : Operand) (hop : o.op = Op.lookup 107 m x true) (hm : a.eval m = .map (some b)) (h : KMap w b F s) (k : Nat) (hx : a.eval x = .int .u64 (k : Int)) (hk : k < 18446744073709551616)
    (y : Option Ky) (hy : F k = y) (hK : wpList Try.prog ops Q rest (a.put o.dst (.tuple #[kyV (y.getD Ky.zero), .bool y.isSome])) w) : wpList Try.prog ops Q (o :: rest) a w := by
  subst hy
  refine wpList_plain hg fun K' hK' => ?_
  unfold Oper.wp
  simp only [execOp, hop, hm, hx, Sem.run_bind, h.look hk, Result.andThen_ok]
  exact hK' _ _ hK
theorem wpList_klen (hg : o.guard = none) (m : Operand) (hop : o.op = Op.call { callee := .builtin .len, args := #[m], argTypes := #[107] }) (hm : a.eval m = .map (some b)) (h : KMap w b F s)
    (hK : wpList Try.prog ops Q rest (a.put o.dst (.int .i64 (s : Int))) w) : wpList Try.prog ops Q (o :: rest) a w := by
  refine wpList_plain hg fun K' hK' => ?_
  unfold Oper.wp execOp
  simp only [hop, resolve, invoke, builtin, Sem.run_bind, Sem.run_pure, Result.andThen_ok, List.map_toArray, List.map_cons, List.map_nil, hm, h.len]
  exact hK' _ _ hK
theorem wpList_kstore (hg : o.guard = none) (m x v : Operand) (hop : o.op = Op.mapUpdate 107 m x v) (hm : a.eval m = .map (some b)) (h : KMap w b F s) (k : Nat) (hx : a.eval x = .int .u64 (k : Int)) (hk : k < 18446744073709551616)
    (hs : s < maxLen) (y : Ky) (hv : a.eval v = kyV y)
    (hK : ∀ w', KMap w' b (fun j => if j = k then some y else F j) (if (F k).isSome then s else s + 1) → w.grownBy w' (some b) → wpList Try.prog ops Q rest (a.put o.dst undef) w') : wpList Try.prog ops Q (o :: rest) a w := by
  refine wpList_plain hg fun K' hK' => ?_
  obtain ⟨w', hrun, h1, h2⟩ := h.store hk hs y
  unfold Oper.wp
  simp only [execOp, hop, hm, hx, hv, Sem.run_bind, hrun, Result.andThen_ok]
  exact hK' _ _ (hK w' h1 h2)
end
def Ky.live (x : Ky) (clock : Nat) : Bool := !x.rev && decide (clock < x.til)
set_option maxRecDepth 100000 in
theorem c_klive (x : Ky) (clock : Nat) (w : World) : Calls Try.prog 60 #[kyV x, .int .u64 (clock : Int)] w fun e w' => e = .returned (.bool (x.live clock)) ∧ Below w.heap.size w w' := by
  unfold kyV kyC
  cases hr : x.rev with
  | true =>
    have HL := hide (show x.live clock = false by simp [Ky.live, hr])
    clear hr
    go_enter Try.func60, Try.ntmps60
    go_wp2
    go_ret
    exact ⟨by rw [HL.out]; rfl, below1 _ _⟩
  | false =>
    have HL := hide (show x.live clock = decide (clock < x.til) by simp [Ky.live, hr])
    clear hr
    go_enter Try.func60, Try.ntmps60
    go_wp2
    go_ret
    refine ⟨congrArg (fun b => Ending.returned (.bool b)) ?_, below1 _ _⟩
    rw [HL.out, decide_eq_decide]
set_option maxRecDepth 100000 in
theorem c_klen {S : Ks} {g b : Nat} (w : World) (h : KeysAt w g b S) : Calls Try.prog 23 #[.pointer (some ⟨g, 0, none⟩)] w fun e w' => e = .returned (.int .i64 (S.s : Int)) ∧ Below w.heap.size w w' := by
  have hc2 : w.cell? ⟨g, 2, none⟩ = some (.map (some b)) := (cell_of_row w _ _ _ _ _ h.1).trans rfl
  have H := hide h
  clear h
  go_enter Try.func23, Try.ntmps23
  go_wp2_with (at_len; go_must (refine wpList_klen rfl _ rfl rfl H.out.2 ?_))
  go_ret
  exact ⟨rfl, Below.refl _ _⟩
theorem knew_at (w : World) (q : Nat) (z : Int) (hz : z = q) : KeysAt ((w.alloc (.map #[] 0)).alloc (.cells #[.int .i64 z, .int .u64 0, .map (some w.heap.size)] 109)) (w.heap.size + 1) w.heap.size ⟨q, 0, fun _ => none, 0⟩ := by
  subst hz
  refine ⟨?_, (KMap.made w).ext (below1 _ _)⟩
  have h := heap_alloc_new (w.alloc (.map #[] 0)) (.cells #[.int .i64 (q : Int), .int .u64 0, .map (some w.heap.size)] 109)
  have h' : ((w.alloc (.map #[] 0)).alloc (.cells #[.int .i64 (q : Int), .int .u64 0, .map (some w.heap.size)] 109)).heap[w.heap.size + 1]? = some (.cells #[.int .i64 (q : Int), .int .u64 0, .map (some w.heap.size)] 109) := by simpa only [World.size_alloc] using h
  exact h'
set_option maxRecDepth 100000 in
theorem c_knew (m : Int) (w : World) : Calls Try.prog 20 #[.int .i64 m] w fun e w' =>
    ∃ g b, e = .returned (.pointer (some ⟨g, 0, none⟩)) ∧ KeysAt w' g b ⟨(min (max m 0) 1024).toNat, 0, fun _ => none, 0⟩ ∧ w.heap.size ≤ g ∧ w.heap.size ≤ b ∧ Below w.heap.size w w' := by
  have hmm := @run_makeMap Try.prog
  obtain ⟨q, hq, hq2⟩ : ∃ q : Nat, (q : Int) = min (max m 0) 1024 ∧ (min (max m 0) 1024).toNat = q := ⟨(min (max m 0) 1024).toNat, by omega, rfl⟩
  rw [hq2]
  clear hq2
  go_enter Try.func20, Try.ntmps20
  go_wp2
  all_goals (go_ret; exact ⟨_, rfl, w.heap.size, knew_at w q _ (by omega), Nat.le_succ _, Nat.le_refl _, below2 _ _ _⟩)
def Ks.find (S : Ks) (kind : Int) (k clock : Nat) : Tg × Nat :=
  match S.F k with
  | none => (Tg.zero, 3)
  | some x => if x.kind = kind then (if x.rev then (Tg.zero, 5) else if clock < x.til then (x.tag, 0) else (Tg.zero, 4)) else (Tg.zero, 3)
set_option maxRecDepth 100000 in
set_option maxHeartbeats 400000 in
theorem c_kfind {S : Ks} {g b : Nat} (kind : Int) (k clock : Nat) (w : World) (h : KeysAt w g b S) (hk : k < 18446744073709551616) : Calls Try.prog 26 #[.pointer (some ⟨g, 0, none⟩), .int .i64 kind, .int .u64 (k : Int), .int .u64 (clock : Int)] w fun e w' =>
    e = .returned (.tuple #[tgV (S.find kind k clock).1, .int .i64 ((S.find kind k clock).2 : Int)]) ∧ Below w.heap.size w w' := by
  have hgs := (Array.getElem?_eq_some_iff.1 h.1).1
  have hc2 : w.cell? ⟨g, 2, none⟩ = some (.map (some b)) := (cell_of_row w _ _ _ _ _ h.1).trans rfl
  have H := hide h
  clear h
  cases hF : S.F k with
  | none =>
    have HP : Hid (S.find kind k clock = (Tg.zero, 3)) := hide (by simp [Ks.find, hF])
    rw [HP.out]
    have HF := hide hF
    clear hF
    go_enter Try.func26, Try.ntmps26
    go_wp2_with (at_lookup; go_must (refine wpList_klook rfl _ _ rfl rfl (H.out.2.ext (below1 _ _)) k rfl hk none HF.out ?_))
    exact bodyPost_ret (v := .tuple #[tgV Tg.zero, .int .i64 3]) (by simp [results, Try.results26, go_sem]) rfl ⟨rfl, below2 _ _ _⟩
  | some x =>
    obtain ⟨kd, tg, tl, rv⟩ := x
    by_cases hkd : kd = kind
    · subst hkd
      cases rv with
      | true =>
        have HP : Hid (S.find kd k clock = (Tg.zero, 5)) := hide (by simp [Ks.find, hF])
        rw [HP.out]
        have HF := hide hF
        clear hF
        go_enter Try.func26, Try.ntmps26
        go_wp2_with (at_lookup; go_must (refine wpList_klook rfl _ _ rfl rfl (H.out.2.ext (below1 _ _)) k rfl hk (some ⟨kd, tg, tl, true⟩) HF.out ?_))
        exact bodyPost_ret (v := .tuple #[tgV Tg.zero, .int .i64 5]) (by simp [results, Try.results26, go_sem]) rfl ⟨rfl, below2 _ _ _⟩
      | false =>
        by_cases hcl : clock < tl
        · have HP : Hid (S.find kd k clock = (tg, 0)) := hide (by simp [Ks.find, hF, hcl])
          rw [HP.out]
          have HF := hide hF
          have HV : Hid (Ky.live ⟨kd, tg, tl, false⟩ clock = true) := hide (by simp [Ky.live, hcl])
          clear hF hcl
          go_enter Try.func26, Try.ntmps26
          go_wp2_with (at_lookup; go_must (refine wpList_klook rfl _ _ rfl rfl (H.out.2.ext (below1 _ _)) k rfl hk (some ⟨kd, tg, tl, false⟩) HF.out ?_))
          refine (c_klive ⟨kd, tg, tl, false⟩ clock _).mono ?_
          rintro e w1 ⟨rfl, b1⟩
          rw [HV.out]
          have HB := hide (bnext (below2 w _ _) b1)
          have hg0 : w1.heap[w.heap.size]? = some (.cells (tgC Tg.zero) 44) := (b1.block _ (by simp; omega)).trans ((Below.heap_alloc _ _ _ (by simp)).trans (heap_alloc_new _ _))
          have hg1 : w1.heap[w.heap.size + 1]? = some (.cells (kyC ⟨kd, tg, tl, false⟩) 111) := (b1.block _ (by simp)).trans (heap_new2 _ _ _)
          have hw1 : w.heap.size < w1.heap.size := (Array.getElem?_eq_some_iff.1 hg0).1
          have hr0 : row? w1 w.heap.size = some (tgC Tg.zero) := row_of hg0
          have hag : agg? w1 ⟨w.heap.size + 1, 1, none⟩ 32 = some (tgC tg) := by
            rw [agg_of_row hg1 1 32 (by decide)]
            exact keyC_tag _ _ _ _
          clear b1 hg0 hg1
          go_wp2_with fail
          exact bodyPost_ret (v := .tuple #[tgV tg, .int .i64 0]) (by simp [results, Try.results26, go_sem, hr0]) rfl ⟨rfl, bsetRow HB.out (Nat.le_refl _) _⟩
        · have HP : Hid (S.find kd k clock = (Tg.zero, 4)) := hide (by simp [Ks.find, hF, hcl])
          rw [HP.out]
          have HF := hide hF
          have HV : Hid (Ky.live ⟨kd, tg, tl, false⟩ clock = false) := hide (by simp [Ky.live, hcl])
          clear hF hcl
          go_enter Try.func26, Try.ntmps26
          go_wp2_with (at_lookup; go_must (refine wpList_klook rfl _ _ rfl rfl (H.out.2.ext (below1 _ _)) k rfl hk (some ⟨kd, tg, tl, false⟩) HF.out ?_))
          refine (c_klive ⟨kd, tg, tl, false⟩ clock _).mono ?_
          rintro e w1 ⟨rfl, b1⟩
          rw [HV.out]
          have HB := hide (bnext (below2 w _ _) b1)
          have hg0 : w1.heap[w.heap.size]? = some (.cells (tgC Tg.zero) 44) := (b1.block _ (by simp; omega)).trans ((Below.heap_alloc _ _ _ (by simp)).trans (heap_alloc_new _ _))
          have hw1 : w.heap.size < w1.heap.size := (Array.getElem?_eq_some_iff.1 hg0).1
          have hr0 : row? w1 w.heap.size = some (tgC Tg.zero) := row_of hg0
          clear b1 hg0
          go_wp2_with fail
          exact bodyPost_ret (v := .tuple #[tgV Tg.zero, .int .i64 4]) (by simp [results, Try.results26, go_sem, hr0]) rfl ⟨rfl, bsetRow HB.out (Nat.le_refl _) _⟩
    · have HP : Hid (S.find kind k clock = (Tg.zero, 3)) := hide (by simp [Ks.find, hF, hkd])
      rw [HP.out]
      have HF := hide hF
      clear hF
      go_enter Try.func26, Try.ntmps26
      go_wp2_with (at_lookup; go_must (refine wpList_klook rfl _ _ rfl rfl (H.out.2.ext (below1 _ _)) k rfl hk (some ⟨kd, tg, tl, rv⟩) HF.out ?_))
      exact bodyPost_ret (v := .tuple #[tgV Tg.zero, .int .i64 3]) (by simp [results, Try.results26, go_sem]) rfl ⟨rfl, below2 _ _ _⟩

end Go.Proofs.Ytlfhbnajopekpaa
