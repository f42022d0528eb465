/- The walk of the statement BundleLong. No condition. -/
import Derived.Test.YtlfhbnajopekpaaBt1
import Derived.Test.YtlfhbnajopekpaaPk12
import Derived.Test.YtlfhbnajopekpaaZer
namespace Go.Proofs.Ytlfhbnajopekpaa
open Go.RowKit
attribute [local go_sem ↓] ld16 ld17 ld32 ld36 ld37
attribute [local go_sem] run_ldAgg run_storeAgg agg_alloc_at agg_alloc_past agg_drew agg_setCell row_alloc_at row_alloc_past row_drew setRow_alloc_at setRow_alloc_past setRow_drew agg_setRow_at agg_setRow_far cell_setRow_at cell_setRow_far row_setRow_far size_setRow tgC_size tgC_one tgC_part tgC_splice tokC_size tokC_0 tokC_1 tokC_2 tokC_3 tokC_g0 tokC_g1 tokC_g2 tokC_g3 tokC_part tokC_tag tokC_set0 tokC_set1 tokC_set2 tokC_set3 tokC_splice tokC_splice0 tgC_splice_any zero_tg zero_tok tokC_all tokC_ne tgC_ne
attribute [local go_sem] bunC_size bunC_0 bunC_1 bunC_2 bunC_3 bunC_36 bunC_g3 bunC_g36 bunC_part bunC_root bunC_set36 bunC_splice bunC_splice0 zero_bun bunC_all bunC_ne

abbrev cav0 : Array Value := #[.bool false, .string ByteArray.empty, .int .u64 0, .string ByteArray.empty, .string ByteArray.empty]
def longC (k : Nat) : Cav := ⟨true, ByteArray.empty, 0, txt (zs k), txt (zs k)⟩
def longT (k : Nat) : Tok := ⟨0, ByteArray.empty, [longC k, longC k], false, Tg.zero⟩
def longB (n k : Nat) : Bun := ⟨longT k, List.replicate n (longT k)⟩
theorem longT_ok (k : Nat) : (longT k).ok := ⟨by simp [longT], by simp [longT, longC]⟩
theorem longB_ok (n k : Nat) : (longB n k).ok := ⟨longT_ok k, fun d hd => by rw [List.eq_of_mem_replicate hd]; exact longT_ok k⟩
theorem longT_check {k : Nat} (h : k < 1024) : checkT (longT k) = true := by
  simp [checkT, longT, longC, canC, zs_size]
  omega
theorem longB_check {n k : Nat} (h : k < 1024) : checkB (longB n k) = decide (n ≤ 16) := by
  have h1 := longT_check h
  have h2 : checkD (longT k) = true := by rw [checkD, h1]; rfl
  have h3 : (List.replicate n (longT k)).all checkD = true := List.all_eq_true.2 fun x hx => by rw [List.eq_of_mem_replicate hx]; exact h2
  simp only [checkB, longB, h1, h3, List.length_replicate]
  simp [longT]
theorem longB_code {n k : Nat} (h : k < 1024) : decide (n ≤ 16) = !decide (bcode (longB n k) = 1) := by
  have h1 := longB_check (n := n) h
  rw [bcode, h1]
  by_cases hn : n ≤ 16
  · simp only [hn, decide_true, if_true]
    split <;> rfl
  · simp [hn]
section
variable {α : Type} {d : Kd α} {base g : Nat} {w : World} {E : TypeId} {v : Value} {xs : List α}
theorem own_setCell_low (h : d.Own (· < g) base w E v xs) (hg : g < base) (o : Nat) (u : Value) : d.Own (· < g) base (w.setCell ⟨g, o, none⟩ u) E v xs :=
  h.keep fun k _ hk => Below.heap_setCell _ _ _ _ (by
    rcases hk with hk | hk
    · show k ≠ g; omega
    · have := (h.base_le k hk.symm).1; show k ≠ g; omega)
end
theorem at_make8 {ops : Array Oper} {rest : List Oper} {dst : Option Tmp} {ty : TypeId} {pos : String} {after : Array Edge} {a : Act} {w : World} {Q : Exit → Act → World → Prop} {l c : Operand} {T E : TypeId} {C : Array Value} (n : Nat) (z : Int) (hz : z = n)
    (hmk : ∀ W : World, (Instr.makeSlice T (.int .i64 (n : Int)) (.int .i64 (n : Int))).run Try.prog W = .ok (.slice (some ⟨W.heap.size, 0, none⟩) n n) (W.alloc (.cells C E))) (hl : a.eval l = .int .i64 z) (hc : a.eval c = .int .i64 z)
    (k : wpList Try.prog ops Q rest (a.put dst (.slice (some ⟨w.heap.size, 0, none⟩) n n)) (w.alloc (.cells C E))) : wpList Try.prog ops Q (⟨dst, .makeSlice T l c, ty, pos, after, none⟩ :: rest) a w := by
  subst hz
  refine wpList_plain rfl fun K hK => ?_
  unfold Oper.wp
  simp only [execOp, hl, hc, Sem.run_bind, hmk, Result.andThen_ok]
  exact hK _ _ k
theorem built_tok2 (A : Option Addr) (n c : Nat) : Try.prog.built 59 [(2, .slice A n c)] = some (tokC (.int .u64 0) (.string ByteArray.empty) (.slice A n c) (.bool false) Tg.zero) := by
  have h : Try.prog.built 59 [(2, .slice A n c)] = some #[.int .u64 0, .string ByteArray.empty, .slice A n c, .bool false, .int .u8 0, .int .u8 0, .int .u8 0, .int .u8 0, .int .u8 0, .int .u8 0, .int .u8 0, .int .u8 0, .int .u8 0, .int .u8 0, .int .u8 0, .int .u8 0, .int .u8 0, .int .u8 0, .int .u8 0, .int .u8 0, .int .u8 0, .int .u8 0, .int .u8 0, .int .u8 0, .int .u8 0, .int .u8 0, .int .u8 0, .int .u8 0, .int .u8 0, .int .u8 0, .int .u8 0, .int .u8 0, .int .u8 0, .int .u8 0, .int .u8 0, .int .u8 0] := by kernel_rfl
  rwa [zero_tok] at h
theorem at_buildT2 {ops : Array Oper} {rest : List Oper} {dst : Option Tmp} {ty : TypeId} {pos : String} {after : Array Edge} {a0 : Act} {w : World} {Q : Exit → Act → World → Prop} (x : Operand) (A : Option Addr) (n c : Nat) (hx : a0.eval x = .slice A n c)
    (k : wpList Try.prog ops Q rest (a0.put dst (.agg (tokC (.int .u64 0) (.string ByteArray.empty) (.slice A n c) (.bool false) Tg.zero))) w) :
    wpList Try.prog ops Q (⟨dst, .build 59 #[(2, x)], ty, pos, after, none⟩ :: rest) a0 w := by
  refine wpList_buildTo rfl 59 #[(2, x)] rfl dst rfl _ ?_ k
  have e : (Array.map (fun x => (x.fst, a0.eval x.snd)) #[(2, x)]).toList = [(2, .slice A n c)] := by simp [hx]
  exact (congrArg _ e).trans (built_tok2 A n c)
theorem cavI : (Try.prog.info? 85).map (fun i => (i.zero, i.size)) = some (some (.agg cav0), 5) := by kernel_rfl
theorem at_buildC2 {ops : Array Oper} {rest : List Oper} {dst : Option Tmp} {ty : TypeId} {pos : String} {after : Array Edge} {a : Act} {w : World} {Q : Exit → Act → World → Prop} (x y : Operand) (a0 a1 a2 a3 a4 : Value) (hx : a.eval x = .agg #[a0, a1, a2, a3, a4]) (hy : a.eval y = .agg #[a0, a1, a2, a3, a4]) (H : Nat) (hH : w.heap.size = H)
    (k : wpList Try.prog ops Q rest (a.put dst (.slice (some ⟨H, 0, none⟩) 2 2)) (w.alloc (.cells #[a0, a1, a2, a3, a4, a0, a1, a2, a3, a4] 85))) :
    wpList Try.prog ops Q (⟨dst, .buildSlice 57 2 #[(0, x), (1, y)], ty, pos, after, none⟩ :: rest) a w := by
  subst hH
  obtain ⟨i0, hi, hzz⟩ := Option.map_eq_some_iff.1 cavI
  simp only [Prod.mk.injEq] at hzz
  obtain ⟨hz0, hz1⟩ := hzz
  refine wpList_buildSlice rfl 57 85 2 #[(0, x), (1, y)] rfl #[a0, a1, a2, a3, a4, a0, a1, a2, a3, a4] i0 _ Try.underlying57 hi hz0 (by rw [hz1]; decide) (by rw [hz1]; decide) ?_ k
  rw [hz1]
  have e : (Array.map (fun x => (x.fst, a.eval x.snd)) #[(0, x), (1, y)]).toList = [(0, .agg #[a0, a1, a2, a3, a4]), (1, .agg #[a0, a1, a2, a3, a4])] := by simp [hx, hy]
  refine (congrArg _ e).trans ?_
  kernel_rfl
theorem cav_row2 {ok : Nat → Prop} {W : World} {g : Nat} {cz : Cav} {a0 a1 a2 a3 a4 : Value} {E : TypeId} (hg : W.heap[g]? = some (.cells #[a0, a1, a2, a3, a4, a0, a1, a2, a3, a4] E)) (hcc : cz.cells = [a0, a1, a2, a3, a4]) (hz : cz.ok) (hok : ok g) : kCav.Row ok W (some ⟨g, 0, none⟩) 2 2 [cz, cz] := by
  refine ⟨rfl, Nat.le_refl _, by decide, fun _ => ⟨g, 0, rfl, hok, (Array.getElem?_eq_some_iff.1 hg).1, fun i x hx => ⟨cz.cells, ?_, fun j u hu => ?_⟩⟩⟩
  · have : x = cz := by
      have := List.mem_of_getElem? hx
      simpa using this
    subst this
    exact ⟨rfl, hz⟩
  · have hi : i < 2 := by have := (List.getElem?_eq_some_iff.1 hx).1; simpa using this
    have hj : j < 5 := by have := (List.getElem?_eq_some_iff.1 hu).1; rw [hcc] at this; simpa using this
    rw [cell_of_row W _ _ _ _ _ hg, ← hu, hcc]
    have h5 : kCav.sz = 5 := rfl
    rw [h5]
    have hi2 : i = 0 ∨ i = 1 := by omega
    have hj2 : j = 0 ∨ j = 1 ∨ j = 2 ∨ j = 3 ∨ j = 4 := by omega
    rcases hi2 with rfl | rfl <;> rcases hj2 with rfl | rfl | rfl | rfl | rfl <;> rfl
theorem bdec_long {xs : List UInt8} (h : xs.length = 65537) : bvalD xs = none ∧ bcodeD xs = 3 := by
  constructor
  · rw [bvalD, if_pos (by omega)]
  · rw [bcodeD, if_pos (by omega)]
theorem benc_len (b : Bun) : (if bcode b = 0 then benc b else []).length ≤ 65536 := by
  split
  · rename_i h
    unfold bcode at h
    split at h
    · split at h
      · cases h
      · omega
    · cases h
  · exact Nat.zero_le _
set_option maxRecDepth 100000 in
set_option maxHeartbeats 1000000 in
theorem c_blong (x y : Nat) (hx : x < 65536) (hy : y < 65536) (w : World) :
    Calls Try.prog 10 #[.int .u16 (x : Int), .int .u16 (y : Int)] w fun e w' => e = .returned (.bool true) ∧ Below w.heap.size w w' := by
  go_enter Try.func10, Try.ntmps10
  go_wp2_with fail
  refine (c_balive _).mono ?_
  rintro z w1 ⟨rfl, b1⟩
  have HB1 := hide b1
  have hw01 := b1.size
  clear b1
  go_wp2_with fail
  obtain ⟨nn, hnn, hn18⟩ : ∃ nn : Nat, (x : Int) % 18 = (nn : Int) ∧ nn < 18 := ⟨x % 18, by omega, by omega⟩
  obtain ⟨kk, hkk, hk10⟩ : ∃ kk : Nat, (y : Int) % 1024 = (kk : Int) ∧ kk < 1024 := ⟨y % 1024, by omega, by omega⟩
  simp only [hnn, hkk]
  clear hnn hkk hx hy
  obtain ⟨C0, hC0, hmk0⟩ := mk8 (P := Try.prog) Try.underlying60 u8_info kk (by omega)
  obtain ⟨C6, hC6, hmk6⟩ := mk8 (P := Try.prog) Try.underlying60 u8_info 65537 (by decide)
  have HC0 := hide hC0
  have HM6 := hide hmk6
  obtain ⟨zl, HZL, HZR⟩ : ∃ zl : List UInt8, Hid (zl.length = 65537) ∧ Hid (∀ (W : World) (g : Nat), W.heap[g]? = some (.cells C6 5) → kU8.Row (fun _ => True) W (some ⟨g, 0, none⟩) 65537 65537 zl) := ⟨zs 65537, hide (zs_len _), hide fun W g h => zrow h hC6 trivial (by decide)⟩
  clear hC6 hmk6
  obtain ⟨cz, hcz⟩ : ∃ cz, cz = longC kk := ⟨_, rfl⟩
  have hcv : Value.agg #[.bool true, .string ByteArray.empty, .int .u64 0, .string (txt (zs kk)), .string (txt (zs kk))] = cavV cz := by rw [hcz]; rfl
  refine wp_region_ext mixed 8 (fun i v w' => match i with
    | 0 => v = .int .i64 (kk : Int)
    | 1 => ∃ g, v = .slice (some ⟨g, 0, none⟩) kk kk ∧ w'.heap[g]? = some (.cells C0 5)
    | 2 => v = .string (txt (zs kk))
    | 3 => v = .int .i64 (kk : Int)
    | 4 => ∃ g, v = .slice (some ⟨g, 0, none⟩) kk kk ∧ w'.heap[g]? = some (.cells C0 5)
    | 5 => v = .string (txt (zs kk))
    | 6 => v = cavV cz
    | _ => ∃ g, v = .pointer (some ⟨g, 0, none⟩) ∧ w1.heap.size ≤ g ∧ w'.heap[g]? = some (.cells cav0 85)
    ) (by kernel_rfl) rfl ?_ ?_ ?_
  · intro i v w1 w2 h1 h2
    split at h2 <;> first | exact h2 | (obtain ⟨g, rfl, hg⟩ := h2; exact ⟨g, rfl, h1.heap hg⟩) | (obtain ⟨g, rfl, hw, hg⟩ := h2; exact ⟨g, rfl, hw, h1.heap hg⟩)
  · refine ⟨fun a w2 hle hd hf hs K hK => ?_, fun a w2 hle hd hf hs K hK => ?_, fun a w2 hle hd hf hs K hK => ?_, fun a w2 hle hd hf hs K hK => ?_, fun a w2 hle hd hf hs K hK => ?_, fun a w2 hle hd hf hs K hK => ?_, fun a w2 hle hd hf hs K hK => ?_, fun a w2 hle hd hf hs K hK => ?_, trivial⟩
    all_goals clear hd
    · -- 26 := Op.move t6
      have e6 := hf 6 rfl; simp [Act.eval] at e6
      go_simp; exact hK _ _ (Ext.refl _) rfl
    · -- 27 := Op.makeSlice 60 t26 t26
      have e26 := hs 0 26 (by kernel_rfl) rfl; simp [Act.eval] at e26
      go_simp; exact hK _ _ (Ext.alloc _ _) ⟨_, rfl, heap_alloc_new _ _⟩
    · -- 28 := Op.convert 60 9 t27
      obtain ⟨g27, e27, hg27⟩ := hs 1 27 (by kernel_rfl) rfl; simp [Act.eval] at e27
      have hq := row_string (P := Try.prog) Try.underlying60 Try.underlying5 Try.underlying9 (zrow (ok := fun _ => True) hg27 hC0 trivial (by simp only [maxLen]; omega))
      go_simp; exact hK _ _ (Ext.refl _) rfl
    · -- 29 := Op.move t6
      have e6 := hf 6 rfl; simp [Act.eval] at e6
      go_simp; exact hK _ _ (Ext.refl _) rfl
    · -- 30 := Op.makeSlice 60 t29 t29
      have e29 := hs 3 29 (by kernel_rfl) rfl; simp [Act.eval] at e29
      go_simp; exact hK _ _ (Ext.alloc _ _) ⟨_, rfl, heap_alloc_new _ _⟩
    · -- 31 := Op.convert 60 9 t30
      obtain ⟨g30, e30, hg30⟩ := hs 4 30 (by kernel_rfl) rfl; simp [Act.eval] at e30
      have hq := row_string (P := Try.prog) Try.underlying60 Try.underlying5 Try.underlying9 (zrow (ok := fun _ => True) hg30 hC0 trivial (by simp only [maxLen]; omega))
      go_simp; exact hK _ _ (Ext.refl _) rfl
    · -- 32 := Op.build 85 #[(0, const (Value.bool true)), (3, t28), (4, t31)]
      have e28 := hs 2 28 (by kernel_rfl) rfl; have e31 := hs 5 31 (by kernel_rfl) rfl; simp [Act.eval] at e28 e31
      go_simp; exact hK _ _ (Ext.refl _) hcv
    · -- 7 := Op.alloc 85
      go_simp; exact hK _ _ (Ext.alloc _ _) ⟨_, rfl, hle.size, heap_alloc_new _ _⟩
  intro vs w8 hle hs
  have v6 := hs 6 (by omega) rfl
  have v7 := hs 7 (by omega) rfl
  simp only at v6 v7
  clear hs

  clear hmk0 hC0 hcv
  obtain ⟨g7, v7, hg7w, hg7⟩ := v7
  have hg7s : g7 < w8.heap.size := (Array.getElem?_eq_some_iff.1 hg7).1
  have HB8 := hide (HB1.out.trans (Below.mono hle HB1.out.size))
  have hw18 := HB8.out.size
  replace hg7w : w.heap.size ≤ g7 := Nat.le_trans hw01 hg7w
  clear hle HB1
  have hcv5 : ∃ a b c d e, cavV cz = .agg #[a, b, c, d, e] ∧ cz.cells = [a, b, c, d, e] := ⟨_, _, _, _, _, rfl, rfl⟩
  obtain ⟨a0, a1, a2, a3, a4, hcv5, hcc⟩ := hcv5
  have HCC := hide hcc
  rw [hcv5] at v6
  have hone : (#[a0, a1, a2, a3, a4] : Array Value).all (·.oneCell') = true := by
    have : ∀ u ∈ cz.cells, u.oneCell' = true := fun u hu => by simp [Cav.cells] at hu; rcases hu with rfl | rfl | rfl | rfl | rfl <;> rfl
    rw [hcc] at this
    exact Array.all_eq_true_iff_forall_mem.2 fun u hu => this u (by simpa using hu)
  simp only [putN, dstAt]
  refine wpList_store_row (P := Try.prog) rfl 85 (.tmp 7) (.tmp 32) rfl g7 #[a0, a1, a2, a3, a4] ?_ ?_ 85 cav0 hg7 (by kernel_rfl) rfl hone ?_
  · go_simp
  · go_simp
  obtain ⟨w9, hw9⟩ : ∃ w9, w9 = w8.setRow g7 #[a0, a1, a2, a3, a4] := ⟨_, rfl⟩
  rw [← hw9]
  have hq9 : w9.heap[g7]? = some (.cells #[a0, a1, a2, a3, a4] 85) := by rw [hw9]; exact setRow_heap w8 g7 _ _ _ _ hg7
  have hc0 : w9.cell? ⟨g7, 0, none⟩ = some a0 := (cell_of_row w9 _ _ _ _ _ hq9).trans rfl
  have hc1 : w9.cell? ⟨g7, 1, none⟩ = some a1 := (cell_of_row w9 _ _ _ _ _ hq9).trans rfl
  have hc2 : w9.cell? ⟨g7, 2, none⟩ = some a2 := (cell_of_row w9 _ _ _ _ _ hq9).trans rfl
  have hc3 : w9.cell? ⟨g7, 3, none⟩ = some a3 := (cell_of_row w9 _ _ _ _ _ hq9).trans rfl
  have hc4 : w9.cell? ⟨g7, 4, none⟩ = some a4 := (cell_of_row w9 _ _ _ _ _ hq9).trans rfl
  have HB9 : Hid (Below w.heap.size w w9) := hide (by rw [hw9]; exact bsetRow HB8.out hg7w _)
  have HCZ := hide hcz
  clear hw9 hq9 hg7 hg7s HB8 hcv5 hcc hone hcz
  go_wp2_with (first | ((with_reducible show wpList _ _ _ (Oper.mk (some 35) _ _ _ _ _ :: _) _ _); refine at_buildC2 _ _ _ _ _ _ _ rfl rfl _ rfl ?_) | ((with_reducible show wpList _ _ _ (Oper.mk (some 36) _ _ _ _ _ :: _) _ _); refine at_buildT2 _ _ _ _ rfl ?_) | ((with_reducible show wpList _ _ _ (Oper.mk (some 38) _ _ _ _ _ :: _) _ _); refine at_buildBun _ _ _ _ _ _ rfl ?_))
  obtain ⟨tz, htz⟩ : ∃ tz, tz = longT kk := ⟨_, rfl⟩
  have HTZ := hide htz
  have HTC : Hid (tz.cavs = [cz, cz]) := hide (by rw [htz, HCZ.out]; rfl)
  have HTA : Hid (tokA tz (some ⟨w9.heap.size, 0, none⟩) 2 2 = tokC (.int .u64 0) (.string ByteArray.empty) (.slice (some ⟨w9.heap.size, 0, none⟩) 2 2) (.bool false) Tg.zero) := hide (by rw [htz]; rfl)
  have HTK : Hid (tz.key < 18446744073709551616) := hide (by rw [htz]; simp [longT])
  have HCO : Hid cz.ok := hide (by rw [HCZ.out]; simp [Cav.ok, longC, zs_size, maxLen]; omega)
  have hw9 := HB9.out.size
  clear htz hc0 hc1 hc2 hc3 hc4 v6 v7
  go_loopw [40] (fun i wr => ∃ (k : Nat) (V : Value) (dk : List Tok), k ≤ nn ∧ i = .int .i64 (k : Int) ∧ Hid (dk = List.replicate k tz) ∧ Hid (wr.heap[w9.heap.size + 1 + 1]? = some (.cells (bunC (.int .u64 0) (.string ByteArray.empty) (.slice (some ⟨w9.heap.size, 0, none⟩) 2 2) (.bool false) Tg.zero V) 70)) ∧
    Hid (kTok.Own (fun q => q < w9.heap.size + 1 + 1) (w9.heap.size + 1 + 1 + 1) wr 59 V dk) ∧ Hid (wr.heap[w9.heap.size]? = some (.cells #[a0, a1, a2, a3, a4, a0, a1, a2, a3, a4] 85)) ∧
    Hid (wr.heap[w9.heap.size + 1]? = some (.cells (tokC (.int .u64 0) (.string ByteArray.empty) (.slice (some ⟨w9.heap.size, 0, none⟩) 2 2) (.bool false) Tg.zero) 59)) ∧ Hid (Below w.heap.size w wr)) (fun i _ => nn - (intOf i).toNat)
  case atStart =>
    refine ⟨0, .slice none 0 0, [], Nat.zero_le _, rfl, hide rfl, hide ?_, hide (.nil _ _ _ _ _), hide ?_, hide ?_, hide ?_⟩
    · have h := heap_alloc_new ((w9.alloc (.cells #[a0, a1, a2, a3, a4, a0, a1, a2, a3, a4] 85)).alloc (.cells (tokC (.int .u64 0) (.string ByteArray.empty) (.slice (some ⟨w9.heap.size, 0, none⟩) 2 2) (.bool false) Tg.zero) 59)) (.cells (bunC (.int .u64 0) (.string ByteArray.empty) (.slice (some ⟨w9.heap.size, 0, none⟩) 2 2) (.bool false) Tg.zero (.slice none 0 0)) 70)
      simpa only [World.size_alloc] using h
    · rw [Below.heap_alloc _ _ _ (by simp; omega), Below.heap_alloc _ _ _ (by simp), heap_alloc_new]
    · rw [Below.heap_alloc _ _ _ (by simp)]
      exact heap_new2 _ _ _
    · exact ((HB9.out.alloc hw9 _).alloc (by simp; omega) _).alloc (by simp; omega) _
  case round =>
    obtain ⟨k, V, dk, hk, rfl, HDK, HQ, HOD, HG0, HG1, HB⟩ := hrel
    have hgs : w9.heap.size + 1 + 1 < wr.heap.size := (Array.getElem?_eq_some_iff.1 HQ.out).1
    obtain ⟨B', d', rfl⟩ := HOD.out.form
    by_cases hlt : k < nn
    · have HLK : Hid (dk.length = k) := hide (by rw [HDK.out, List.length_replicate])
      have hc36 : wr.cell? ⟨w9.heap.size + 1 + 1, 36, none⟩ = some (.slice B' dk.length d') := (cell_of_row _ _ _ _ _ _ HQ.out).trans (bunC_36 _ _ _ _ _ _)
      have hag : agg? wr ⟨w9.heap.size + 1, 0, none⟩ 36 = some (tokC (.int .u64 0) (.string ByteArray.empty) (.slice (some ⟨w9.heap.size, 0, none⟩) 2 2) (.bool false) Tg.zero) := by
        rw [agg_of_row HG1.out 0 36 (by decide)]
        exact tokC_part _ _ _ _ _
      go_wp2_with (first | ((with_reducible show wpList _ _ _ (Oper.mk (some 45) _ _ _ _ _ :: _) _ _); refine at_buildTok _ _ _ _ _ _ rfl _ rfl ?_) | (at_builtin; go_must (refine wpList_app (d := kTok) (ys := [tz]) rfl _ _ _ rfl Try.underlying68 tok_info rfl (by decide) 1 rfl rfl (.inl (HOD.out.below (below1 _ _))) (Kd.Src.new (d := kTok) (ok := fun q => q < w9.heap.size + 1 + 1 ∧ some q ≠ (Value.slice B' dk.length d').ownBlock) (cs := (tokA tz (some ⟨w9.heap.size, 0, none⟩) 2 2).toList) ⟨some ⟨w9.heap.size, 0, none⟩, 2, 2, rfl, ?_, HTK.out⟩ _ (congrArg Array.toList HTA.out.symm) _ ?_) ?_ ?_ ?_ ?_)))
      · rw [HTC.out]
        exact cav_row2 HG0.out HCC.out HCO.out ⟨by omega, fun e => by have := (HOD.out.base_le _ e.symm).1; omega⟩
      · rfl
      · first | omega | (simp only [World.size_alloc]; omega)
      · have := HLK.out; simp only [maxLen]; omega
      · have := HLK.out; omega
      · intro v1 w6 _ h2 h3 h4 h5
        have hq6 := (h3.block (w9.heap.size + 1 + 1) (Nat.lt_succ_self _)).trans (((below1 wr _).block _ hgs).trans HQ.out)
        have hfz : ∀ j, w6.frozen? ⟨w9.heap.size + 1 + 1, j, none⟩ = false := fun j => frozen_of_row w6 _ _ _ _ hq6
        have hc6 : w6.cell? ⟨w9.heap.size + 1 + 1, 36, none⟩ = some (.slice B' dk.length d') := (cell_of_row w6 _ _ _ _ _ hq6).trans (bunC_36 _ _ _ _ _ _)
        have HQ6 := hide hq6
        obtain ⟨Bv, dv, hve⟩ := h2.form
        obtain ⟨dk', hdk'⟩ : ∃ dk', dk' = dk ++ [tz] := ⟨_, rfl⟩
        rw [← hdk'] at hve h2
        have HDK' : Hid (dk' = List.replicate (k + 1) tz) := hide (by rw [hdk', HDK.out, List.replicate_succ'])
        clear hdk'
        subst hve
        have H2 := hide h2
        have hb6 : Below (w9.heap.size + 1 + 1) wr w6 := ((below1 wr _).mono (by omega)).trans (h3.mono (Nat.le_succ _))
        have HB6 := hide hb6
        clear h2 h3 h4 h5 hq6 hag hb6 hc36
        go_wp2_with fail
        go_roundw
        case rel =>
          refine ⟨k + 1, .slice Bv dk'.length dv, dk', by omega, by simp, HDK', hide ?_, hide ?_, hide ?_, hide ?_, hide ?_⟩
          · exact (heap_setCell_at HQ6.out _).trans (by rw [bunC_set36])
          · exact own_setCell_low H2.out (Nat.lt_succ_self _) _ _
          · exact ((HB6.out.setCell (Nat.le_refl _) _).block _ (by omega)).trans HG0.out
          · exact ((HB6.out.setCell (Nat.le_refl _) _).block _ (by omega)).trans HG1.out
          · exact HB.out.trans ((HB6.out.setCell (Nat.le_refl _) _).mono (by omega))
        case measure => simp [intOf]; omega
    · obtain rfl : nn = k := by omega
      obtain ⟨B2, d2, he, hrd⟩ := HOD.out.row
      cases he
      have hlk : dk.length = nn := by rw [HDK.out, List.length_replicate]
      rw [hlk] at hrd HQ
      obtain ⟨b, hbe, hag, hr1, hr2⟩ : ∃ b, b = longB nn kk ∧ agg? wr ⟨w9.heap.size + 1 + 1, 0, none⟩ 37 = some (bunA b (some ⟨w9.heap.size, 0, none⟩) 2 2 B' nn d') ∧ kCav.Row (fun _ => True) wr (some ⟨w9.heap.size, 0, none⟩) 2 2 b.root.cavs ∧ kTok.Row (fun _ => True) wr B' nn d' b.dis := by
        refine ⟨longB nn kk, rfl, ?_, ?_, ?_⟩
        · rw [agg_of_row HQ.out 0 37 (by decide)]
          exact bunC_part _ _ _ _ _ _
        · show kCav.Row _ _ _ 2 2 (longT kk).cavs
          rw [← HTZ.out, HTC.out]
          exact cav_row2 HG0.out HCC.out HCO.out trivial
        · show kTok.Row _ _ _ _ _ (List.replicate nn (longT kk))
          rw [← HTZ.out, ← HDK.out]
          exact hrd.more fun _ _ => trivial
      have HBO : Hid b.ok := hide (by rw [hbe]; exact longB_ok _ _)
      have HCD : Hid (decide (nn ≤ 16) = !decide (bcode b = 1)) := hide (by rw [hbe]; exact longB_code hk10)
      have HR1 := hide hr1
      have HR2 := hide hr2
      clear hbe hr1 hr2 hrd hlt hk hlk HDK HTZ HTC HTA HTK HCO HCC HCZ HOD HG0 HG1 hw9 hg7w hw18 hw01
      go_wp2_with fail
      refine (c_bencode b _ _ 2 2 nn d' _ _ wr HR1.out HR2.out HBO.out.1.1).mono ?_
      rintro z w4 ⟨v4, rfl, ho4, b4⟩
      have hel := benc_len b
      obtain ⟨kt, hkt⟩ : ∃ kt, kt = bcode b := ⟨_, rfl⟩
      obtain ⟨et, het⟩ : ∃ et, et = (if kt = 0 then benc b else []) := ⟨_, rfl⟩
      rw [← hkt, ← het] at ho4 hel
      rw [← hkt]
      have HKT := hide hkt
      have HET := hide het
      have hso4 := ho4
      obtain ⟨A4, c4, rfl, hr4⟩ := ho4.row
      have HO4 := hide hso4
      have HB4 := hide (bnext HB.out b4)
      have HX4a := hide (hr4.more (ok' := fun _ => True) fun _ _ => trivial)
      have hag4 := (agg_block (n := 37) (o := 0) (b4.block (w9.heap.size + 1 + 1) hgs)).trans hag
      have hws4 := b4.size
      have HP4 := hide b4
      clear b4 ho4 hr4 hag het hkt hso4
      go_wp2_with fail
      refine (c_rbencode b _ _ 2 2 nn d' _ _ w4 (HR1.out.below HP4.out) (HR2.out.below HP4.out) HBO.out).mono ?_
      rintro z w5 ⟨v5, rfl, ho5, b5⟩
      rw [← HKT.out, ← HET.out] at ho5
      rw [← HKT.out]
      have hso5 := ho5
      obtain ⟨A5, c5, rfl, -⟩ := ho5.row
      have HB5 := hide (bnext HB4.out b5)
      have HX4b := hide (HX4a.out.below b5)
      have HR5a := hide (own8 (ok' := fun _ => False) hso5)
      have HO5 := hide (HO4.out.below b5)
      have hws5 := b5.size
      clear b5 ho5 hso5 hag4
      go_wp2_with ((with_reducible show wpList _ _ _ (Oper.mk (some 60) _ _ _ _ _ :: _) _ _); refine at_make8 65537 _ rfl HM6.out rfl rfl ?_)
      have hbl := below1 w5 (.cells C6 5)
      refine (c_bdecode _ 65537 65537 zl (fun _ => True) _ (HZR.out _ _ (heap_alloc_new _ _))).mono ?_
      rintro z w6 ⟨A6, n6, c6, B6, m6, d6, rfl, -, -, b6⟩
      obtain ⟨y6, hy6⟩ : ∃ y6, y6 = (bvalD zl).getD Bun.zero := ⟨_, rfl⟩
      rw [← hy6, (bdec_long HZL.out).2]
      have hb6 := bnext hbl b6
      have HB6 := hide (bnext HB5.out hb6)
      have HX4c := hide (HX4b.out.below hb6)
      have HR5b := hide (HR5a.out.below hb6)
      have HO6 := hide (HO5.out.below hb6)
      have hws6 := hb6.size
      clear b6 hb6 hy6 hbl
      go_wp2_with (at_builtin; go_must (refine wpList_app_zeros rfl _ _ 60 3 9 rfl Try.underlying60 Try.underlying3 Try.underlying9 u8_info (65537 - et.length) rfl rfl ?_ ?_ (HO6.out.below (below1 _ _)) ?_ rfl ?_ ?_))
      · omega
      · omega
      · simp only [World.size_alloc]; omega
      · omega
      intro v7 w7 ho7 hx4 b7 hn7
      obtain ⟨x7, hx7⟩ : ∃ x7, x7 = et ++ zs (65537 - et.length) := ⟨_, rfl⟩
      have hl7 : x7.length = 65537 := by rw [hx7, List.length_append, zs_len]; omega
      rw [← hx7] at ho7
      clear hx7
      obtain ⟨A7, c7, rfl, hr7⟩ := ho7.row
      rw [hl7] at hr7 ⊢
      have hbb := below1 w6 (.cells (bunA y6 A6 n6 c6 B6 m6 d6) 70)
      have hwr := HB.out.size
      have hx5 : kU8.Row (fun _ => True) w7 A5 et.length c5 et := by
        obtain ⟨A9, c9, e9, hr9⟩ := ((HR5b.out.below hbb).keep (w' := w7) fun k hk hor => hn7 k (by simpa only [World.size_alloc] using hk) fun e => by
          rcases hor with h | h
          · exact h.elim
          · have h1 := (HR5a.out.base_le k h.symm).1
            have h2 := (HO4.out.base_le k e.symm).2
            omega).row
        cases e9
        exact hr9.more fun _ _ => trivial
      have HX4d := hide hx4
      have HX5d := hide hx5
      have hw7 : w.heap.size ≤ w7.heap.size := by have := b7.size; simp only [World.size_alloc] at this; omega
      have HB7 := hide ((HB6.out.alloc HB6.out.size (.cells (bunA y6 A6 n6 c6 B6 m6 d6) 70)).trans (b7.mono hwr))
      clear hx4 hx5 b7 hn7 ho7 hbb
      go_wp2_with fail
      refine (c_bdecode A7 65537 c7 x7 _ w7 hr7).mono ?_
      rintro z w8 ⟨A8, n8, c8, B8, m8, d8, rfl, -, -, b8⟩
      obtain ⟨y8, hy8⟩ : ∃ y8, y8 = (bvalD x7).getD Bun.zero := ⟨_, rfl⟩
      rw [← hy8, (bdec_long hl7).2]
      have HB8 := hide (bnext HB7.out b8)
      have HX4e := hide (HX4d.out.below b8)
      have HX5e := hide (HX5d.out.below b8)
      clear b8 hy8 hr7
      have bb := below1 w8 (.cells (bunA y8 A8 n8 c8 B8 m8 d8) 70)
      have HB9' := hide (bnext HB8.out bb)
      have hq4 := row_string (P := Try.prog) Try.underlying60 Try.underlying5 Try.underlying9 (HX4e.out.below bb)
      have hq5 := row_string (P := Try.prog) Try.underlying60 Try.underlying5 Try.underlying9 (HX5e.out.below bb)
      have hcd := HCD.out
      rw [← HKT.out] at hcd
      clear bb
      by_cases h1 : kt = 1
      · subst h1
        have h16 : ¬ (nn : Int) ≤ 16 := by simp at hcd; omega
        clear hcd
        go_wp2_with fail
        go_ret
        exact ⟨congrArg (fun b => Ending.returned (Value.bool b)) (show (!decide ((nn : Int) ≤ 16)) = true by rw [decide_eq_false (by omega : ¬ (nn : Int) ≤ 16)]; rfl), HB9'.out⟩
      · have h16 : (nn : Int) ≤ 16 := by simp [h1] at hcd; omega
        have hk1 : ¬ (kt : Int) = 1 := by omega
        have hk2 : ((kt : Int) == 1) = false := by simpa using hk1
        clear hcd
        go_wp2_with fail
        go_ret
        exact ⟨congrArg (fun b => Ending.returned (Value.bool b)) (show ((kt : Int) != 1) = true by rw [bne, hk2]; rfl), HB9'.out⟩

end Go.Proofs.Ytlfhbnajopekpaa
