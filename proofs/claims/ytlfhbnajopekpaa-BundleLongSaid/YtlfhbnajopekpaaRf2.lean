/- The document's answer for layer 9: fields. No condition. -/
import Derived.Test.YtlfhbnajopekpaaRf1
namespace Go.Proofs.Ytlfhbnajopekpaa
open Go.RowKit

/-- []byte(text), at the operation. -/
theorem wp_tobytes {P : Program} {E : TypeId} {w : World} {op : Oper} {a : Act} {K : Act → World → Prop} {Q : Exit → Act → World → Prop} (S D : TypeId) (x : Operand) (ho : op.op = .convert S D x) (s : ByteArray) (hx : a.eval x = .string s)
    (hS : P.underlying S = some .string) (hD : P.underlying D = some (.slice E)) (hE : P.underlying E = some (.int .u8)) (hs : s.size ≤ 9223372036854775807)
    (k : ∀ c w', kU8.Row (fun k => k = w.heap.size) w' (some ⟨w.heap.size, 0, none⟩) s.size c (byt s) → Below w.heap.size w w' → K (a.put op.dst (.slice (some ⟨w.heap.size, 0, none⟩) s.size c)) w') : op.wp P a w K Q := by
  unfold Oper.wp execOp
  simp only [ho, hx, Sem.run_bind, Sem.run_pure, Result.andThen_ok, Lib.run_convert_string_bytes w S D E s hS hD hE]
  exact k _ _ (bytes_new w E s hs) (bytesWorld_below w E s)

set_option maxRecDepth 100000 in
set_option maxHeartbeats 800000 in
theorem c_rfbytes (k : UInt8) (s : ByteArray) (w : World) (hs : s.size ≤ 1099511627776) :
    Calls Try.prog 78 #[.agg #[bv k, .string s]] w fun e w' => ∃ v, e = .returned v ∧ kU8.Own (fun _ => True) w.heap.size w' 5 v (fput ⟨k, s⟩) ∧ Below w.heap.size w w' := by
  have HS := hide hs
  have HW := hide (show IntKind.u64.wrap (s.size : Int) = (s.size : Int) by rw [IntKind.wrap_u64]; omega)
  have HVL := hide (vput_len10 (n := s.size) (by omega))
  clear hs
  go_enter Try.func78, Try.ntmps78
  go_wp2
  have hcell : (w.alloc (.cells #[bv k, .string s] 134)).heap[w.heap.size]? = some (.cells #[bv k, .string s] 134) := heap_alloc_new _ _
  have hc0 : (w.alloc (.cells #[bv k, .string s] 134)).cell? ⟨w.heap.size, 0, none⟩ = some (bv k) := (cell_of_row _ _ _ _ _ _ hcell).trans rfl
  have hc1 : (w.alloc (.cells #[bv k, .string s] 134)).cell? ⟨w.heap.size, 1, none⟩ = some (.string s) := (cell_of_row _ _ _ _ _ _ hcell).trans rfl
  clear hcell
  refine wp_region_ext mixed 12 (fun i v w' => match i with
    | 0 => v = .pointer (some ⟨w.heap.size, 0, none⟩)
    | 1 => v = bv k
    | 2 => ∃ g, v = .slice (some ⟨g, 0, none⟩) 1 1 ∧ w'.heap[g]? = some (.cells #[bv k] 5)
    | 3 => v = .pointer (some ⟨w.heap.size, 1, none⟩)
    | 4 => v = .string s
    | 5 => v = .int .i64 (s.size : Int)
    | 6 => v = .int .u64 (s.size : Int)
    | 7 => ∃ A c, v = .slice A (vput s.size).length c ∧ kU8.Row (fun _ => True) w' A (vput s.size).length c (vput s.size)
    | 8 => kU8.Own (fun _ => True) w.heap.size w' 5 v ([k] ++ vput s.size)
    | 9 => v = .pointer (some ⟨w.heap.size, 1, none⟩)
    | 10 => v = .string s
    | _ => ∃ A c, v = .slice A s.size c ∧ kU8.Row (fun _ => True) w' A s.size c (byt s)
    ) (by kernel_rfl) rfl ?_ ?_ ?_
  · intro i v w1 w2 h1 h2
    split at h2 <;> first | exact h2 | (obtain ⟨g, rfl, hg⟩ := h2; exact ⟨g, rfl, h1.heap hg⟩) | (obtain ⟨A, c, e, hr⟩ := h2; exact ⟨A, c, e, hr.below h1⟩) | exact h2.below h1
  · refine ⟨fun a w1 hle hd hf hs K hK => ?_, fun a w1 hle hd hf hs K hK => ?_, fun a w1 hle hd hf hs K hK => ?_, fun a w1 hle hd hf hs K hK => ?_, fun a w1 hle hd hf hs K hK => ?_, fun a w1 hle hd hf hs K hK => ?_, fun a w1 hle hd hf hs K hK => ?_, fun a w1 hle hd hf hs K hK => ?_, fun a w1 hle hd hf hs K hK => ?_, fun a w1 hle hd hf hs K hK => ?_, fun a w1 hle hd hf hs K hK => ?_, fun a w1 hle hd hf hs K hK => ?_, trivial⟩
    all_goals clear hd
    · -- 3 := Op.fieldAddr 134 t1 0
      have e1 := hf 1 rfl; simp [Act.eval] at e1
      go_simp; exact hK _ _ (Ext.refl _) rfl
    · -- 4 := Op.load 5 t3
      have e3 := hs 0 3 (by kernel_rfl) rfl; simp [Act.eval] at e3
      have hc := hle.cell hc0
      go_simp; exact hK _ _ (Ext.refl _) rfl
    · -- 5 := Op.buildSlice 60 1 #[(0, t4)]
      have e4 := hs 1 4 (by kernel_rfl) rfl; simp [Act.eval] at e4
      go_simp; exact hK _ _ (Ext.alloc _ _) ⟨_, rfl, heap_alloc_new _ _⟩
    · -- 6 := Op.fieldAddr 134 t1 1
      have e1 := hf 1 rfl; simp [Act.eval] at e1
      go_simp; exact hK _ _ (Ext.refl _) rfl
    · -- 7 := Op.load 9 t6
      have e6 := hs 3 6 (by kernel_rfl) rfl; simp [Act.eval] at e6
      have hc := hle.cell hc1
      go_simp; exact hK _ _ (Ext.refl _) rfl
    · -- 8 := Op.call { builtin len, args := #[t7], argTypes := #[9] }
      have e7 := hs 4 7 (by kernel_rfl) rfl; simp [Act.eval] at e7
      go_simp; exact hK _ _ (Ext.refl _) rfl
    · -- 9 := Op.convert 3 39 t8
      have e8 := hs 5 8 (by kernel_rfl) rfl; simp [Act.eval] at e8
      have hw := HW.out
      go_simp; exact hK _ _ (Ext.refl _) rfl
    · -- 10 := Op.call { value (Operand.func 89), args := #[t9], argTypes := #[39] }
      have e9 := hs 6 9 (by kernel_rfl) rfl; simp [Act.eval] at e9
      go_simp
      refine (c_r8bytes 9 s.size _ _ rfl (by have := HS.out; omega) (by have := HS.out; omega)).mono ?_
      rintro e w4 ⟨v, rfl, ho, hb⟩
      obtain ⟨A2, c2, rfl, hr⟩ := ho.row
      exact hK _ _ hb ⟨A2, c2, rfl, hr.more fun _ _ => trivial⟩
    · -- 11 := Op.call { builtin append, args := #[t5, t10], argTypes := #[60, 60] }
      obtain ⟨g5, e5, hg5⟩ := hs 2 5 (by kernel_rfl) rfl
      obtain ⟨A10, c10, e10, hr10⟩ := hs 7 10 (by kernel_rfl) rfl
      have hrow : kU8.Row (fun _ => True) w1 (some ⟨g5, 0, none⟩) 1 1 [k] := ⟨rfl, Nat.le_refl _, by decide, fun _ => ⟨g5, 0, rfl, trivial, (Array.getElem?_eq_some_iff.1 hg5).1, fun i x hx => ⟨[bv x], ⟨rfl, trivial⟩, fun j u hu => by
        match i, hx with
        | 0, hx =>
          simp at hx
          subst hx
          match j, hu with
          | 0, hu => simp at hu; subst hu; exact (cell_of_row w1 _ _ _ _ _ hg5).trans rfl
          | j + 1, hu => simp at hu
        | i + 1, hx => simp at hx⟩⟩⟩
      refine wp_full (d := kU8) (ys := vput s.size) _ _ _ rfl Try.underlying60 u8_info rfl (by decide) c10 e5 e10 hrow hr10.src (vput_pos _) ?_ ?_ ?_
      · have := HVL.out; simp only [maxLen]; omega
      · have := HVL.out; omega
      · intro v' w' h1 h2
        exact hK _ _ h2 (h1.lower (by have := hle.size; simp only [World.size_alloc] at this; omega))
    · -- 12 := Op.fieldAddr 134 t1 1
      have e1 := hf 1 rfl; simp [Act.eval] at e1
      go_simp; exact hK _ _ (Ext.refl _) rfl
    · -- 13 := Op.load 9 t12
      have e12 := hs 9 12 (by kernel_rfl) rfl; simp [Act.eval] at e12
      have hc := hle.cell hc1
      go_simp; exact hK _ _ (Ext.refl _) rfl
    · -- 14 := Op.convert 9 60 t13
      have e13 := hs 10 13 (by kernel_rfl) rfl
      refine wp_tobytes 9 60 _ rfl s e13 Try.underlying9 Try.underlying60 Try.underlying5 (by have := HS.out; omega) ?_
      intro c w' h1 h2
      exact hK _ _ h2 ⟨_, c, rfl, h1.more fun _ _ => trivial⟩
  · intro vs w1 hle hs
    have v8 := hs 8 (by omega) rfl
    have v11 := hs 11 (by omega) rfl
    simp only at v8 v11
    clear hs
    obtain ⟨A11, c11, v11, hr11⟩ := v11
    obtain ⟨A8, c8, v8e⟩ := v8.form
    rw [v8e] at v8
    have HO8 := hide v8
    have HR11 := hide hr11
    have HB1 := hide ((below1 w (.cells #[bv k, .string s] 134)).trans (hle.mono (by simp)))
    clear hle hr11 v8
    simp only [putN, dstAt]
    go_simp
    go_wp2_with (at_builtin; go_must (refine wpList_app (d := kU8) (ys := byt s) rfl _ _ _ rfl Try.underlying60 u8_info rfl (by decide) c11 rfl rfl (.inl HO8.out) (src8 HR11.out.src) HB1.out.size ?_ ?_ ?_))
    · have := HVL.out; have := HS.out; simp only [maxLen, List.length_append, List.length_cons, List.length_nil]; omega
    · have := HVL.out; have := HS.out; simp only [List.length_append, List.length_cons, List.length_nil]; omega
    · intro v1 w4 _ h2 h3 _ _
      have H2 := hide (h2 (.inr HO8.out))
      have H3 := hide h3
      clear h2 h3
      go_wp2_with fail
      go_ret
      refine ⟨_, rfl, ?_, HB1.out.trans H3.out⟩
      have := H2.out
      simpa [fput] using this
theorem rfld_size : (Try.prog.info? 134).map (·.size) = some kFld.sz := by kernel_rfl
theorem rfld_info : (Try.prog.info? 134).map (fun i => (i.zero, i.size, i.bytes)) = some (some (.agg #[.int .u8 0, .string ByteArray.empty]), 2, 24) := by kernel_rfl

set_option maxRecDepth 100000 in
set_option maxHeartbeats 400000 in
theorem c_rjoin (A : Option Addr) (n c : Nat) (l : List Fld) (ok : Nat → Prop) (w : World) (hR : kFld.Row ok w A n c l) (hn : (fjoin l).length ≤ 1099511627776) (hv : ∀ f ∈ l, f.value.size ≤ 1099511627776) :
    Calls Try.prog 44 #[.slice A n c] w fun e w' => ∃ v, e = .returned v ∧ kU8.Own (fun _ => True) w.heap.size w' 5 v (fjoin l) ∧ Below w.heap.size w w' := by
  have HL := hide hR.1
  have hcap : n ≤ maxLen := Nat.le_trans hR.2.1 hR.2.2.1
  simp only [maxLen] at hcap
  have HR := hide hR
  have HN := hide hn
  have HV := hide hv
  clear hR hn hv
  go_enter Try.func44, Try.ntmps44
  go_wp2_with fail
  go_loopw [9, 3] (fun i p wr => ∃ (k : Nat) (lp : List UInt8), k ≤ n ∧ i = .int .i64 (k : Int) ∧ Hid (lp = fjoin (l.take k)) ∧ Hid (kU8.Own (fun _ => True) w.heap.size wr 5 p lp) ∧ Hid (Below w.heap.size w wr)) (fun i _ _ => n - (intOf i).toNat)
  case atStart => exact ⟨0, [], Nat.zero_le _, rfl, hide rfl, hide (Kd.Own.lit (.nil _ _ _) #[] rfl 0 rfl (Nat.zero_le _) _ rfl (Nat.le_refl _)), hide (below1 _ _)⟩
  case round =>
    obtain ⟨k, lp, hk, rfl, HLP, HO, HB⟩ := hrel
    by_cases hlt : k < n
    · obtain ⟨f, hf⟩ : ∃ f, l[k]? = some f := ⟨_, List.getElem?_eq_getElem (by have := HL.out; omega)⟩
      obtain ⟨b, q, cs, hix, -, hbl, hK, hra⟩ := (HR.out.below HB.out).index (P := Try.prog) Try.underlying88 (E := 134) rfld_size hf
      have hKe := hK.1
      subst hKe
      have hc0 := hra 0 _ rfl
      have hc1 := hra 1 _ rfl
      simp only [Nat.add_zero] at hc0
      have HT : Hid (l.take (k + 1) = l.take k ++ [f]) := hide (by rw [List.take_add_one, hf]; rfl)
      have HFV := hide (HV.out f (List.mem_of_getElem? hf))
      have hsb := HB.out.size
      have HLN : Hid ((lp ++ fput f).length ≤ 1099511627776) := hide (by
        have h1 : lp ++ fput f = fjoin (l.take (k + 1)) := by rw [HT.out, fjoin_app, ← HLP.out]; simp [fjoin]
        rw [h1]
        exact Nat.le_trans (fjoin_take l (k + 1)) HN.out)
      clear hf hK hra
      go_wp2_with fail
      refine (c_rfbytes f.kind f.value _ HFV.out).mono ?_
      rintro e w1 ⟨v1, rfl, h1, b1⟩
      have b1' := bnext (below1 wr _) b1
      have HB1 := hide (HB.out.trans (b1'.mono hsb))
      have HO1 := hide (HO.out.below b1')
      have hsb1 := HB1.out.size
      obtain ⟨A1, c1, rfl, hr1⟩ := h1.row
      have HR1 := hide hr1
      clear h1 b1 b1' hr1
      go_wp2_with (at_builtin; go_must (refine wpList_app (d := kU8) (ys := fput f) rfl _ _ _ rfl Try.underlying60 u8_info rfl (by decide) c1 rfl rfl (.inl HO1.out) (src8 HR1.out.src) hsb1 ?_ ?_ ?_))
      · have := HLN.out; rw [List.length_append] at this; simp only [maxLen]; show _ ≤ 9223372036854775807; have e : (fput ⟨f.kind, f.value⟩).length = (fput f).length := rfl; omega
      · have := HLN.out; rw [List.length_append] at this; have e : (fput ⟨f.kind, f.value⟩).length = (fput f).length := rfl; omega
      · intro v2 w2 _ h2 h3 _ _
        have H2 := hide (h2 (.inr HO1.out))
        have HB2 := hide (HB1.out.trans h3)
        clear h2 h3
        go_wp2_with fail
        go_roundw
        case rel =>
          refine ⟨k + 1, _, by omega, by simp, hide ?_, H2, HB2⟩
          rw [HT.out, fjoin_app, ← HLP.out]
          simp [fjoin]
        case measure => simp [intOf]; omega
    · obtain rfl : k = n := by omega
      have HE : Hid (lp = fjoin l) := hide (by rw [HLP.out, List.take_of_length_le (Nat.le_of_eq HL.out)])
      go_wp2_with fail
      go_ret
      exact ⟨_, rfl, by rw [← HE.out]; exact HO.out, HB.out⟩

theorem Kd.Row.mid {P : Program} {α : Type} {d : Kd α} {ok : Nat → Prop} {w : World} {A : Option Addr} {n c : Nat} {xs : List α} {T E : TypeId} (h : d.Row ok w A n c xs) (hT : P.underlying T = some (.slice E)) (hE : (P.info? E).map (·.size) = some d.sz) {k m : Nat} (hk : k + m ≤ n) (kd ke : IntKind) (i j : Int) (hi : i = k) (hj : j = (k : Int) + (m : Int)) :
    ∃ B, (∀ wx : World, (Instr.sliceAt T (.slice A n c) (some (.int kd i)) (some (.int ke j)) none).run P wx = .ok (.slice B m (c - k)) wx) ∧ d.Row ok w B m (c - k) ((xs.drop k).take m) := by
  refine ⟨_, fun wx => ?_, (h.drop (k := k) (by omega)).take (k := m) (by omega)⟩
  subst hi hj
  have e : P.elem T = E := by simp [Program.elem, hT]
  have hc := h.2.1
  rw [run_sliceAt_slice _ _ _ _ _ _ (elem_of hT), run_slice_lh wx T A n c (elem_of hT) kd ke k ((k : Int) + (m : Int)) (by omega) (by omega) (by omega), e, size_run hE]
  have e2 : ((k : Int) + (m : Int)).toNat - k = m := by omega
  simp [Result.andThen, sliced, e2]
theorem set2 {w : World} {g : Nat} {a b : Value} {T : TypeId} {fr : Nat × Nat} (h : w.heap[g]? = some (.cells #[a, b] T fr)) (x y : Value) :
    ((w.setCell ⟨g, 0, none⟩ x).setCell ⟨g, 1, none⟩ y).cell? ⟨g, 0, none⟩ = some x ∧ ((w.setCell ⟨g, 0, none⟩ x).setCell ⟨g, 1, none⟩ y).cell? ⟨g, 1, none⟩ = some y := by
  have h2 := heap_setCell_at (heap_setCell_at h (o := 0) x) (o := 1) y
  exact ⟨(cell_of_row _ _ _ _ _ _ h2).trans (by simp), (cell_of_row _ _ _ _ _ _ h2).trans (by simp)⟩
def rgetV : Option (Fld × Nat) → Value
  | none => .tuple #[.agg #[.int .u8 0, .string ByteArray.empty], .int .i64 0]
  | some (f, k) => .tuple #[.agg #[bv f.kind, .string f.value], .int .i64 (k : Int)]
set_option maxRecDepth 100000 in
set_option maxHeartbeats 800000 in
theorem c_rfget (A : Option Addr) (n c : Nat) (xs : List UInt8) (ok : Nat → Prop) (w : World) (hR : kU8.Row ok w A n c xs) :
    Calls Try.prog 90 #[.slice A n c] w fun e w' => Below w.heap.size w w' ∧ e = .returned (rgetV (fget xs)) := by
  have HR := hide hR
  have hlen := hR.1
  have hc : n ≤ c := hR.2.1
  have hm : c ≤ 9223372036854775807 := hR.2.2.1
  clear hR
  by_cases h2 : n < 2
  · have HF : Hid (fget xs = none) := hide (by
      match xs, hlen with
      | [], _ => rfl
      | [k], _ => rfl
      | a :: b :: r, h => simp at h; omega)
    clear hlen
    go_enter Try.func90, Try.ntmps90
    go_wp2_with fail
    exact bodyPost_ret (v := .tuple #[.agg #[.int .u8 0, .string ByteArray.empty], .int .i64 0]) (by simp [results, Try.results90, go_sem]; rfl) rfl ⟨by repeat (first | exact Below.refl _ _ | refine Below.alloc ?_ (by simp) _ | refine Below.setCell ?_ (by simp) _), by rw [HF.out]; rfl⟩
  · cases xs with
    | nil => simp at hlen; omega
    | cons k r =>
    obtain ⟨m, rfl⟩ : ∃ m, n = m + 1 := ⟨r.length, by simpa using hlen.symm⟩
    have hrl : r.length = m := by simpa using hlen
    obtain ⟨B, hs1, hB⟩ := HR.out.from (P := Try.prog) Try.underlying60 (E := 5) (by kernel_rfl) (k := 1) (by omega) .i64 1 rfl
    rw [List.drop_one, List.tail_cons] at hB
    have HB := hide hB
    obtain ⟨g1, g2⟩ := vget_le r
    have hvn : (vget r).1 < 18446744073709551616 := vget_lt r
    obtain ⟨nv, hnv⟩ : ∃ nv, nv = (vget r).1 := ⟨_, rfl⟩
    obtain ⟨kv, hkv⟩ : ∃ kv, kv = (vget r).2 := ⟨_, rfl⟩
    have HNV := hide hnv
    have HKV := hide hkv
    rw [← hnv] at hvn
    rw [← hkv, hrl] at g1
    clear hlen hB hnv hkv g2
    obtain ⟨C, hs2, hC⟩ := HR.out.from (P := Try.prog) Try.underlying60 (E := 5) (by kernel_rfl) (k := 1 + kv) (by omega) .i64 (1 + kv) (by simp)
    have HC := hide hC
    clear hC
    rw [show m + 1 - (1 + kv) = m - kv by omega] at hs2 HC
    have hcc : (k :: r).drop (1 + kv) = r.drop kv := by rw [Nat.add_comm, List.drop_succ_cons]
    have hdl : (r.drop kv).length = m - kv := by rw [List.length_drop, hrl]
    have HDL := hide hdl
    have HCC := hide hcc
    clear hcc hdl hrl
    go_enter Try.func90, Try.ntmps90
    go_wp2_with fail
    refine (c_rget B m (c - 1) r _ _ (HB.out.alloc _)).mono ?_
    rintro e w1 ⟨rfl, b1⟩
    rw [← HNV.out, ← HKV.out]
    have HB1 := hide (bnext (below1 _ _) b1)
    have hg1 : w1.heap[w.heap.size]? = some (.cells #[.int .u8 0, .string ⟨#[]⟩] 134) := (b1.block _ (by simp)).trans (heap_alloc_new _ _)
    have hl1 : w.heap.size < w1.heap.size := (Array.getElem?_eq_some_iff.1 hg1).1
    have hf0 : ∀ j, w1.frozen? ⟨w.heap.size, j, none⟩ = false := fun j => frozen_of_row w1 _ _ _ _ hg1
    have hz0 : w1.cell? ⟨w.heap.size, 0, none⟩ = some (.int .u8 0) := (cell_of_row w1 _ _ _ _ _ hg1).trans rfl
    have hz1 : w1.cell? ⟨w.heap.size, 1, none⟩ = some (.string ⟨#[]⟩) := (cell_of_row w1 _ _ _ _ _ hg1).trans rfl
    have HG1 := hide hg1
    clear b1 hg1
    by_cases hk0 : kv = 0
    · have HF : Hid (fget (k :: r) = none) := hide (by rw [fget, if_pos (.inl (by rw [← HKV.out, hk0]))])
      obtain ⟨q0, q1⟩ := set2 HG1.out (.int .u8 0) (.string ⟨#[]⟩)
      go_wp2_with fail
      exact bodyPost_ret (v := .tuple #[.agg #[.int .u8 0, .string ByteArray.empty], .int .i64 0]) (by simp [results, Try.results90, go_sem, q0, q1]; rfl) rfl ⟨(HB1.out.setCell (Nat.le_refl _) _).setCell (Nat.le_refl _) _, by rw [HF.out]; rfl⟩
    by_cases hlong : m - kv < nv
    · have HF : Hid (fget (k :: r) = none) := hide (by
        rw [fget, ← HKV.out, ← HNV.out, if_pos (.inr (by rw [HDL.out]; exact hlong))])
      obtain ⟨q0, q1⟩ := set2 HG1.out (.int .u8 0) (.string ⟨#[]⟩)
      go_wp2_with fail
      exact bodyPost_ret (v := .tuple #[.agg #[.int .u8 0, .string ByteArray.empty], .int .i64 0]) (by simp [results, Try.results90, go_sem, q0, q1]; rfl) rfl ⟨(HB1.out.setCell (Nat.le_refl _) _).setCell (Nat.le_refl _) _, by rw [HF.out]; rfl⟩
    · have HF : Hid (fget (k :: r) = some (⟨k, txt ((r.drop kv).take nv)⟩, 1 + kv + nv)) := hide (by
        rw [fget, ← HKV.out, ← HNV.out, if_neg (by rw [HDL.out]; omega)])
      obtain ⟨b, q, cs, hix, -, hbl, hK, hra⟩ := (HR.out.below HB1.out).index (P := Try.prog) Try.underlying60 (E := 5) (by kernel_rfl) (i := 0) (x := k) rfl
      have hKe := hK.1
      subst hKe
      have hk0 := hra 0 _ rfl
      simp only [Nat.add_zero] at hk0
      have hixx : ∀ wx : World, (Instr.indexAt 60 (.slice A (m + 1) c) (.int .i64 0)).run Try.prog wx = .ok (.pointer (some ⟨b, q, none⟩)) wx := hix
      obtain ⟨C', hsl, hC'⟩ := HR.out.mid (P := Try.prog) Try.underlying60 (E := 5) (by kernel_rfl) (k := 1 + kv) (m := nv) (by omega) .i64 .i64 (1 + (kv : Int)) (1 + (kv : Int) + (nv : Int)) (by simp) (by simp)
      have hst := row_string (P := Try.prog) Try.underlying60 Try.underlying5 Try.underlying9 ((hC'.below HB1.out).drewN 1)
      rw [HCC.out] at hst
      have hst : (convert 60 9 (.slice C' nv (c - (1 + kv)))).run Try.prog w1.drew = .ok (.string (txt ((r.drop kv).take nv))) w1.drew := hst
      obtain ⟨q0, q1⟩ := set2 (w := w1) HG1.out (bv k) (.string (txt ((r.drop kv).take nv)))
      have hkb : ((kv : Int) == 0) = false := beq_eq_false_iff_ne.2 (by omega)
      have hlb : decide ((m : Int) - (kv : Int) < (nv : Int)) = false := decide_eq_false (by omega)
      clear hK hra hix hs1 hs2 hC'
      go_wp2_with fail
      go_region
      go_wp2_with fail
      exact bodyPost_ret (v := .tuple #[.agg #[bv k, .string (txt ((r.drop kv).take nv))], .int .i64 ((1 + kv + nv : Nat) : Int)]) (by simp [results, Try.results90, go_sem, q0, q1]) rfl ⟨((HB1.out.setCell (Nat.le_refl _) _).setCell (Nat.le_refl _) _).drew, by rw [HF.out]; rfl⟩

def RAllPost (base : Nat) (w' : World) (e : Ending) (o : Option (List Fld)) : Prop :=
  ∃ v b, e = .returned (.tuple #[v, .bool b]) ∧ b = o.isSome ∧ kFld.Own (fun _ => True) base w' 134 v (o.getD [])
set_option maxRecDepth 100000 in
set_option maxHeartbeats 800000 in
theorem c_rall (A : Option Addr) (n c : Nat) (xs : List UInt8) (ok : Nat → Prop) (w : World) (hR : kU8.Row ok w A n c xs) (hn : n ≤ 1099511627776) :
    Calls Try.prog 76 #[.slice A n c] w fun e w' => Below w.heap.size w w' ∧ RAllPost w.heap.size w' e (fall xs) := by
  have HR := hide hR
  have HL := hide hR.1
  clear hR
  go_enter Try.func76, Try.ntmps76
  go_wp2_with fail
  go_loopw [5, 4] (fun i p wr => ∃ (j : Nat) (acc : List Fld), j ≤ n ∧ i = .int .i64 (j : Int) ∧ Hid (kFld.Own (fun _ => True) w.heap.size wr 134 p acc) ∧ Hid (acc.length ≤ j) ∧ Hid (fall xs = (fall (xs.drop j)).map (acc ++ ·)) ∧ Hid (Below w.heap.size w wr)) (fun i _ _ => n - (intOf i).toNat)
  case atStart => exact ⟨0, [], Nat.zero_le _, rfl, hide (Kd.Own.lit (.nil _ _ _) #[] rfl 0 rfl (Nat.zero_le _) _ rfl (Nat.le_refl _)), hide (Nat.le_refl _), hide (by simp), hide (below1 _ _)⟩
  case round =>
    obtain ⟨j, acc, hj, rfl, HO, HA, HE, HB⟩ := hrel
    obtain ⟨A3, c3, rfl⟩ := HO.out.form
    by_cases hlt : j < n
    · obtain ⟨B, hsl, hB⟩ := (HR.out.below HB.out).from (P := Try.prog) Try.underlying60 (E := 5) (by kernel_rfl) (k := j) (by omega) .i64 j rfl
      have HRB := hide hB
      have hsb := HB.out.size
      clear hB
      go_wp2_with fail
      refine (c_rfget B (n - j) (c - j) (xs.drop j) _ wr HRB.out).mono ?_
      rintro e w1 ⟨b1, rfl⟩
      have HB1 := hide (HB.out.trans (b1.mono hsb))
      have HO1 := hide (HO.out.below b1)
      have HLD : Hid ((xs.drop j).length = n - j) := hide (by rw [List.length_drop, HL.out])
      have HY : Hid (xs.drop j ≠ []) := hide (fun e => by have := HLD.out; rw [e] at this; simp at this; omega)
      clear b1
      cases hg : fget (xs.drop j) with
      | none =>
        have HF : Hid (fall xs = none) := hide (by rw [HE.out, fall_none HY.out hg]; rfl)
        clear hg
        unfold rgetV
        go_wp2_with fail
        exact bodyPost_ret (v := .tuple #[.slice none 0 0, .bool false]) (by simp [results, Try.results76, go_sem]) rfl ⟨HB1.out.alloc HB1.out.size _, _, _, rfl, by rw [HF.out]; rfl, by rw [HF.out]; exact .nil _ _ _ _ _⟩
      | some fk =>
        obtain ⟨f, k⟩ := fk
        have hp := fget_pos hg
        rw [HLD.out] at hp
        obtain ⟨hk0, hkm, hfs⟩ := hp
        have HFS := hide hfs
        have HE1 : Hid (fall xs = (fall (xs.drop (j + k))).map ((acc ++ [f]) ++ ·)) := hide (by
          rw [HE.out, fall_some HY.out hg, Option.map_map, List.drop_drop]
          congr 1
          funext x
          simp)
        have hki : ¬ (k : Int) = 0 := by omega
        have hkb : ((k : Int) == 0) = false := beq_eq_false_iff_ne.2 hki
        clear hg hfs
        unfold rgetV
        simp only
        go_wp2_with (at_builtin; go_must (refine wpList_app (d := kFld) (ys := [f]) rfl _ _ _ rfl Try.underlying88 rfld_info rfl (by decide) 1 rfl rfl (.inl ((HO1.out.below (below1 _ _)).below (below1 _ _))) (src_fld (ok := fun _ => True) (Kd.Src.new (d := kFld) ⟨rfl, ?_⟩ _ rfl _ ?_)) ?_ ?_ ?_ ?_))
        · have := HFS.out; simp only [maxLen]; omega
        · simp
        · have := HB1.out.size; simp; omega
        · have := HA.out; simp only [maxLen]; omega
        · have := HA.out; omega
        · intro v1 w2 _ h2 h3 h4 h5
          have H2 := hide h2
          have HB2 := hide (HB1.out.trans (((below2 w1 (.cells #[bv f.kind, .string f.value] 134) (.cells #[bv f.kind, .string f.value] 134)).mono HB1.out.size).trans h3))
          clear h2 h3 h4 h5
          go_wp2_with fail
          go_roundw
          case rel => exact ⟨j + k, acc ++ [f], by omega, by simp, H2, hide (by have := HA.out; simp; omega), HE1, HB2⟩
          case measure => simp [intOf]; omega
    · have HY : Hid (xs.drop j = []) := hide (List.drop_eq_nil_of_le (by have := HL.out; omega))
      go_wp2_with fail
      exact bodyPost_ret (v := .tuple #[.slice A3 acc.length c3, .bool true]) (by simp [results, Try.results76, go_sem]) rfl ⟨HB.out, _, _, rfl, by rw [HE.out, HY.out, fall_nil]; rfl, by rw [HE.out, HY.out, fall_nil]; simpa using HO.out⟩
end Go.Proofs.Ytlfhbnajopekpaa
