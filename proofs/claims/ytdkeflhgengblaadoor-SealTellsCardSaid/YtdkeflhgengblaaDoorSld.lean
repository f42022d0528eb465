/- The statement SealTells, for every input, and its tied card. No condition. -/
import Derived.Test.YtdkeflhgengblaaDoorSlc
import Derived.Test.YtdkeflhgengblaaDoorSlb
import Derived.Test.YtdkeflhgengblaaDoorSla
import Derived.SizedLaws
import Derived.Test.YtdkeflhgengblaaDoorRows
import Derived.Test.YtdkeflhgengblaaDoorTie
import Derived.Test.YtdkeflhgengblaaDoorCards
import Derived.SevenTiedAt
namespace Go.Proofs.YtdkeflhgengblaaDoor
open Go.RowKit
attribute [local go_sem ↓] ld8 ld32 ld64 ld73
attribute [local go_sem] run_ldAgg run_storeAgg agg_alloc_at agg_alloc_past agg_drew agg_setCell row_alloc_at row_alloc_past row_drew setRow_alloc_at setRow_alloc_past setRow_drew agg_setRow_at agg_setRow_far cell_setRow_at cell_setRow_far row_setRow_far size_setRow s8C_size s8C_part s8C_one s8C_splice0 s8C_ne dgC_size dgC_72 dgC_part dgC_h dgC_r dgC_splice_h dgC_set dgC_one dgC_splice0 dgC_ne zero_dg
attribute [local go_sem] tgC_size tgC_one tgC_part tgC_splice tgC_splice_any zero_tg tgC_ne

theorem str_byte {P : Program} {T : TypeId} (h : P.underlying T = some .string) {s : List UInt8} {k : Nat} {y : UInt8} (hy : s[k]? = some y) (kd : IntKind) : ∀ W : World, (Instr.index T (.string (txt s)) (.int kd (k : Int))).run P W = .ok (bv y) W := fun W => by
  have hk : k < s.length := (List.getElem?_eq_some_iff.1 hy).1
  have hi : 0 ≤ (k : Int) ∧ (k : Int) < ((txt s).size : Int) := by rw [txt_size]; omega
  rw [run_index_string W T (txt s) kd k h, dif_pos hi]
  have : (txt s)[(k : Int).toNat]'(by rw [txt_size]; omega) = y := by
    rw [List.getElem?_eq_getElem hk] at hy
    exact Option.some.inj hy
  rw [this]
theorem idx_k {P : Program} {T E : TypeId} (hT : P.underlying T = some (.slice E)) (hE : (P.info? E).map (·.size) = some 1) (g n c k : Nat) (hk : k < n) : ∀ wx : World, (Instr.indexAt T (.slice (some ⟨g, 0, none⟩) n c) (.int .i64 (k : Int))).run P wx = .ok (.pointer (some ⟨g, k, none⟩)) wx := fun wx => by
  cases hq : P.info? E with
  | none => rw [hq] at hE; cases hE
  | some x =>
    rw [hq] at hE
    have : x.size = 1 := by simpa using hE
    simp [Instr.indexAt, asIntOf, run_underlying hT, sizeOf, typeInfo, hq, this, hk, Addr.add]
    omega
set_option maxRecDepth 100000 in
set_option maxHeartbeats 800000 in
theorem c_sturned (key nonce : Tg) (s : List UInt8) (w : World) (hn : s.length < 1048576) (hP : PrimesAt w) :
    Calls Tryd.prog 80 #[tgV key, tgV nonce, .string (txt s)] w fun e w' => e = .returned (.string (txt (turnd key nonce s))) ∧ Below w.heap.size w w' := by
  have HP := hide hP
  have hw0 := hP.1
  obtain ⟨n, hnn⟩ : ∃ n, n = s.length := ⟨_, rfl⟩
  have hsz : (txt s).size = n := by rw [txt_size, hnn]
  have HN : Hid (s.length = n) := hide hnn.symm
  have HB1 : Hid (Below w.heap.size w ((w.alloc (.cells (tgC key) 29)).alloc (.cells (tgC nonce) 29))) := hide (below2 _ _ _)
  rw [← hnn] at hn
  clear hP hnn
  go_enter Tryd.func80, Tryd.ntmps80
  go_wp2_with fail
  refine (c_stream key nonce _ n _ (by simp) hn (HP.out.ext HB1.out)).mono ?_
  rintro e w5 ⟨v5, rfl, h5, b5⟩
  obtain ⟨A, hA⟩ : ∃ A, A = turnd key nonce s := ⟨_, rfl⟩
  obtain ⟨B, hBB⟩ : ∃ B, B = strm key nonce n := ⟨_, rfl⟩
  have hlA : A.length = n := by rw [hA, turnd_len, HN.out]
  have hlB : B.length = n := by rw [hBB, strm_len]
  have HAZ : Hid (A = List.zipWith (· ^^^ ·) B s) := hide (by rw [hA, hBB, turnd, HN.out])
  obtain ⟨AV, cV, hvf⟩ := h5.form
  rw [strm_len] at hvf
  rw [hvf] at h5 ⊢
  have HV0 : Hid (kU8.Own (fun _ => True) (w.heap.size + 2) w5 5 (.slice AV n cV) (mix A B 0)) := hide (by
    rw [mix_start, hBB]; simp only [World.size_alloc] at h5; exact h5)
  have HB5 : Hid (Below (w.heap.size + 2) w5 w5) := hide (Below.refl _ _)
  have HB0 : Hid (Below w.heap.size w w5) := hide (bnext HB1.out b5)
  have hw5 : w.heap.size + 2 ≤ w5.heap.size := by have := b5.size; simpa only [World.size_alloc] using this
  have HA := hide hA
  have HLA := hide hlA
  have HLB := hide hlB
  clear hA hBB hlA hlB hvf h5 b5
  go_wp2_with fail
  go_loopw [16] (fun i wr => ∃ (k : Nat), k ≤ n ∧ i = .int .i64 (k : Int) ∧ Hid (kU8.Own (fun _ => True) (w.heap.size + 2) wr 5 (.slice AV n cV) (mix A B k)) ∧ Hid (Below (w.heap.size + 2) w5 wr)) (fun i _ => n - (intOf i).toNat)
  case atStart => exact ⟨0, Nat.zero_le _, rfl, HV0, HB5⟩
  case round =>
    clear HV0 HB5
    obtain ⟨k, hk, rfl, HV, HB⟩ := hrel
    by_cases hlt : k < n
    · obtain ⟨b, hb⟩ : ∃ b, B[k]? = some b := ⟨_, List.getElem?_eq_getElem (by rw [HLB.out]; exact hlt)⟩
      obtain ⟨y, hy⟩ : ∃ y, s[k]? = some y := ⟨_, List.getElem?_eq_getElem (by rw [HN.out]; exact hlt)⟩
      obtain ⟨a, ha⟩ : ∃ a, a = b ^^^ y := ⟨_, rfl⟩
      have hAa : A[k]? = some a := by rw [HAZ.out, List.getElem?_zipWith, hb, hy, ha]
      have hml : (mix A B k).length = n := by rw [mix_len (HLA.out.trans HLB.out.symm), HLA.out]
      obtain ⟨g, cap, cur, e, hbg, hg, hnc, hm, hcu⟩ := own8_open HV.out (by omega)
      rw [hml] at e hnc
      injection e with e1 _ e3
      subst e1 e3
      have HSX := hide (str_byte (P := Tryd.prog) Tryd.underlying9 hy .i64)
      have HCB : Hid (cur[k]? = some (bv b)) := hide (hcu k b ((mix_at (HLA.out.trans HLB.out.symm) (by rw [HLA.out]; exact hk)).trans hb))
      have HIX := hide (idx_k (P := Tryd.prog) Tryd.underlying22 u8_info1 g n cV k hlt)
      have HXY : Hid (bits .xor .u8 (b.toNat : Int) (y.toNat : Int) = (a.toNat : Int)) := hide (by rw [ha]; exact b_xor b y)
      have HG := hide hg
      have HV1 : Hid (∀ w8, Below wr.heap.size wr w8 → kU8.Own (fun _ => True) (w.heap.size + 2) (w8.setCell ⟨g, k, none⟩ (bv a)) 5 (.slice (some ⟨g, 0, none⟩) n cV) (mix A B (k + 1))) := hide (fun w8 h8 => by
        rw [← mix_set (HLA.out.trans HLB.out.symm) hAa]
        exact own8_set (HV.out.below h8) a)
      have HBG : Hid (w.heap.size + 2 ≤ g) := hide hbg
      have HWR := hide (Nat.le_trans hw5 HB.out.size)
      clear hb hy ha hAa hml hcu hg hbg hm hnc
      go_wp2_with fail
      refine wp_region_ext mixed 9 (fun i v w' => match i with
        | 0 => v = .slice (some ⟨g, 0, none⟩) n cV
        | 1 => v = .int .i64 (k : Int)
        | 2 => v = .pointer (some ⟨g, k, none⟩)
        | 3 => v = bv b
        | 4 => v = .string (txt s)
        | 5 => v = .int .i64 (k : Int)
        | 6 => v = bv y
        | 7 => v = bv a
        | _ => v = .pointer (some ⟨g, k, none⟩)
        ) (regOk_of (by kernel_rfl)) rfl ?_ ?_ ?_
      · intro i v w1 w2 h1 h2
        split at h2 <;> exact h2
      · refine ⟨fun a w2 hle hd hf hs K hK => ?_, fun a w2 hle hd hf hs K hK => ?_, fun a w2 hle hd hf hs K hK => ?_, fun a w2 hle hd hf hs K hK => ?_, fun a w2 hle hd hf hs K hK => ?_, fun a w2 hle hd hf hs K hK => ?_, fun a w2 hle hd hf hs K hK => ?_, fun a w2 hle hd hf hs K hK => ?_, fun a w2 hle hd hf hs K hK => ?_, trivial⟩
        all_goals clear hd
        · -- 19 := Op.move t7
          have e7 := hf 7 rfl; simp [Act.eval] at e7
          go_simp; exact hK _ _ (Ext.refl _) rfl
        · -- 20 := Op.move t8
          have e8 := hf 8 rfl; simp [Act.eval] at e8
          go_simp; exact hK _ _ (Ext.refl _) rfl
        · -- 21 := Op.indexAddr 22 t19 t20
          have e19 := hs 0 19 (needs_direct (by kernel_rfl)) rfl; have e20 := hs 1 20 (needs_direct (by kernel_rfl)) rfl; simp [Act.eval] at e19 e20
          have hix := HIX.out
          go_simp; exact hK _ _ (Ext.refl _) rfl
        · -- 22 := Op.load 5 t21
          have e21 := hs 2 21 (needs_direct (by kernel_rfl)) rfl; simp [Act.eval] at e21
          have hcx := (cell_of_row w2 g k _ _ _ (hle.heap HG.out)).trans HCB.out
          go_simp; exact hK _ _ (Ext.refl _) rfl
        · -- 23 := Op.move t2
          have e2 := hf 2 rfl; simp [Act.eval] at e2
          go_simp; exact hK _ _ (Ext.refl _) rfl
        · -- 24 := Op.move t8
          have e8 := hf 8 rfl; simp [Act.eval] at e8
          go_simp; exact hK _ _ (Ext.refl _) rfl
        · -- 25 := Op.index 9 t23 t24
          have e23 := hs 4 23 (needs_direct (by kernel_rfl)) rfl; have e24 := hs 5 24 (needs_direct (by kernel_rfl)) rfl; simp [Act.eval] at e23 e24
          have hsx := HSX.out
          go_simp; exact hK _ _ (Ext.refl _) rfl
        · -- 26 := Op.binOp BinOp.xor 5 t22 t25 5
          have e22 := hs 3 22 (needs_direct (by kernel_rfl)) rfl; have e25 := hs 6 25 (needs_direct (by kernel_rfl)) rfl; simp [Act.eval] at e22 e25
          have hxx := HXY.out
          go_simp; exact hK _ _ (Ext.refl _) rfl
        · -- 27 := Op.indexAddr 22 t19 t20
          have e19 := hs 0 19 (needs_direct (by kernel_rfl)) rfl; have e20 := hs 1 20 (needs_direct (by kernel_rfl)) rfl; simp [Act.eval] at e19 e20
          have hix := HIX.out
          go_simp; exact hK _ _ (Ext.refl _) rfl
      intro vs w8 hle hs
      have v7 := hs 7 (by omega) rfl
      have v8 := hs 8 (by omega) rfl
      simp only at v7 v8
      clear hs
      have hg8 := hle.heap HG.out
      have hfz := frozen_of_row w8 g k _ _ hg8
      have hcx := (cell_of_row w8 g k _ _ _ hg8).trans HCB.out
      have HV2 := hide (HV1.out w8 hle)
      have HB2 := hide (bsetCell (HB.out.trans (hle.mono HWR.out)) HBG.out k (bv a))
      clear hg8 hle
      simp only [putN, dstAt]
      go_simp
      go_wp2_with fail
      go_roundw
      case rel => exact ⟨k + 1, hlt, by simp, HV2, HB2⟩
      case measure => simp [intOf]; omega
    · obtain rfl : k = n := by omega
      obtain ⟨A2, c2, e2, hr2⟩ := own_row HV.out
      have hme := mix_end (A := A) (B := B) (k := k) (HLA.out.trans HLB.out.symm) HLA.out.symm
      rw [hme, HA.out] at hr2
      rw [mix_len (HLA.out.trans HLB.out.symm), HLA.out] at e2
      rw [turnd_len, HN.out] at hr2
      injection e2 with e1 _ e3
      subst e1 e3
      have hst := row_string (P := Tryd.prog) Tryd.underlying22 Tryd.underlying5 Tryd.underlying9 hr2
      have HBE := hide (HB0.out.trans (HB.out.mono (by omega)))
      clear hr2 hme
      go_wp2_with fail
      go_ret
      exact ⟨rfl, HBE.out⟩
end Go.Proofs.YtdkeflhgengblaaDoor
namespace Go.Proofs.YtdkeflhgengblaaDoor
open Go.RowKit
attribute [local go_sem ↓] ld8 ld32 ld64 ld73
attribute [local go_sem] run_ldAgg run_storeAgg agg_alloc_at agg_alloc_past agg_drew agg_setCell row_alloc_at row_alloc_past row_drew setRow_alloc_at setRow_alloc_past setRow_drew agg_setRow_at agg_setRow_far cell_setRow_at cell_setRow_far row_setRow_far size_setRow s8C_size s8C_part s8C_one s8C_splice0 s8C_ne dgC_size dgC_72 dgC_part dgC_h dgC_r dgC_splice_h dgC_set dgC_one dgC_splice0 dgC_ne zero_dg
attribute [local go_sem] tgC_size tgC_one tgC_part tgC_splice tgC_splice_any zero_tg tgC_ne

theorem turnd_at {key nonce : Tg} {s : List UInt8} {k : Nat} {b y : UInt8} (hb : (strm key nonce s.length)[k]? = some b) (hy : s[k]? = some y) : (turnd key nonce s).take k ++ [y ^^^ b] = (turnd key nonce s).take (k + 1) := by
  rw [List.take_add_one, turnd, List.getElem?_zipWith, hb, hy]
  simp only [Option.toList, UInt8.xor_comm]
set_option maxRecDepth 100000 in
set_option maxHeartbeats 800000 in
theorem c_rsturned (key nonce : Tg) (s : List UInt8) (w : World) (hn : s.length < 1048576) :
    Calls Tryd.prog 81 #[tgV key, tgV nonce, .string (txt s)] w fun e w' => e = .returned (.string (txt (turnd key nonce s))) ∧ Below w.heap.size w w' := by
  obtain ⟨n, hnn⟩ : ∃ n, n = s.length := ⟨_, rfl⟩
  have hsz : (txt s).size = n := by rw [txt_size, hnn]
  have HN : Hid (s.length = n) := hide hnn.symm
  have HB1 : Hid (Below w.heap.size w ((w.alloc (.cells (tgC key) 29)).alloc (.cells (tgC nonce) 29))) := hide (below2 _ _ _)
  rw [← hnn] at hn
  clear hnn
  go_enter Tryd.func81, Tryd.ntmps81
  go_wp2_with fail
  refine (c_rstream key nonce _ n _ (by simp) hn).mono ?_
  rintro e w5 ⟨v5, rfl, h5, b5⟩
  obtain ⟨AV, cV, e5, hr5⟩ := own_row h5
  rw [strm_len] at e5 hr5
  rw [e5]
  have HR5 := hide hr5
  have HV0 : Hid (kU8.Own (fun _ => True) w5.heap.size (w5.alloc (.cells #[] 5)) 5 (.slice (some ⟨w5.heap.size, 0, none⟩) 0 0) ((turnd key nonce s).take 0)) := hide (bytes_lit w5 [] #[] rfl 0 rfl (Nat.zero_le _))
  have HB5 : Hid (Below w5.heap.size w5 (w5.alloc (.cells #[] 5))) := hide (below1 _ _)
  have HB0 : Hid (Below w.heap.size w w5) := hide (bnext HB1.out b5)
  have hw5 : w.heap.size ≤ w5.heap.size := HB0.out.size
  clear e5 h5 b5 hr5
  go_wp2_with fail
  go_loopw [8, 9] (fun v i wr => ∃ (k : Nat), k ≤ n ∧ i = .int .i64 (k : Int) ∧ Hid (kU8.Own (fun _ => True) w5.heap.size wr 5 v ((turnd key nonce s).take k)) ∧ Hid (Below w5.heap.size w5 wr)) (fun _ i _ => n - (intOf i).toNat)
  case atStart => exact ⟨0, Nat.zero_le _, rfl, HV0, HB5⟩
  case round =>
    clear HV0 HB5
    obtain ⟨k, hk, rfl, HV, HB⟩ := hrel
    have hlk : ((turnd key nonce s).take k).length = k := by rw [List.length_take, turnd_len, HN.out]; omega
    obtain ⟨AO, cO, hvf⟩ := HV.out.form
    rw [hlk] at hvf
    rw [hvf] at HV ⊢
    have HLK := hide hlk
    clear hvf hlk
    by_cases hlt : k < n
    · obtain ⟨b, hb⟩ : ∃ b, (strm key nonce n)[k]? = some b := ⟨_, List.getElem?_eq_getElem (by rw [strm_len]; exact hlt)⟩
      obtain ⟨y, hy⟩ : ∃ y, s[k]? = some y := ⟨_, List.getElem?_eq_getElem (by rw [HN.out]; exact hlt)⟩
      obtain ⟨x1, ha⟩ : ∃ a, a = y ^^^ b := ⟨_, rfl⟩
      have HST : Hid ((turnd key nonce s).take k ++ [x1] = (turnd key nonce s).take (k + 1)) := hide (by rw [ha]; exact turnd_at (by rw [HN.out]; exact hb) hy)
      have HSX := hide (str_byte (P := Tryd.prog) Tryd.underlying9 hy .i64)
      obtain ⟨p, o, hip, hcp, hpb⟩ := row_byte (HR5.out.below HB.out) hb
      have HIX := hide hip
      have HCB := hide hcp
      have HPB := hide hpb
      have HXY : Hid (bits .xor .u8 (y.toNat : Int) (b.toNat : Int) = (x1.toNat : Int)) := hide (by rw [ha]; exact b_xor y b)
      have HWR := hide HB.out.size
      clear hb hy ha hip hcp hpb
      go_wp2_with fail
      refine wp_region_ext mixed 10 (fun i v w' => match i with
        | 0 => v = .slice AO k cO
        | 1 => v = .string (txt s)
        | 2 => v = .int .i64 (k : Int)
        | 3 => v = bv y
        | 4 => v = .slice AV n cV
        | 5 => v = .int .i64 (k : Int)
        | 6 => v = .pointer (some ⟨p, o, none⟩)
        | 7 => v = bv b
        | 8 => v = bv x1
        | _ => ∃ A c, v = .slice A 1 c ∧ kU8.Row (fun _ => True) w' A 1 c [x1]
        ) (regOk_of (by kernel_rfl)) rfl ?_ ?_ ?_
      · intro i v w1 w2 h1 h2
        split at h2 <;> first | exact h2 | (obtain ⟨A, c, e, hr⟩ := h2; exact ⟨A, c, e, hr.below h1⟩)
      · refine ⟨fun a w2 hle hd hf hs K hK => ?_, fun a w2 hle hd hf hs K hK => ?_, fun a w2 hle hd hf hs K hK => ?_, fun a w2 hle hd hf hs K hK => ?_, fun a w2 hle hd hf hs K hK => ?_, fun a w2 hle hd hf hs K hK => ?_, fun a w2 hle hd hf hs K hK => ?_, fun a w2 hle hd hf hs K hK => ?_, fun a w2 hle hd hf hs K hK => ?_, fun a w2 hle hd hf hs K hK => ?_, trivial⟩
        all_goals clear hd
        · -- 22 := Op.move t8
          have e8 := hf 8 rfl; simp [Act.eval] at e8
          go_simp; exact hK _ _ (Ext.refl _) rfl
        · -- 23 := Op.move t2
          have e2 := hf 2 rfl; simp [Act.eval] at e2
          go_simp; exact hK _ _ (Ext.refl _) rfl
        · -- 24 := Op.move t9
          have e9 := hf 9 rfl; simp [Act.eval] at e9
          go_simp; exact hK _ _ (Ext.refl _) rfl
        · -- 25 := Op.index 9 t23 t24
          have e23 := hs 1 23 (needs_direct (by kernel_rfl)) rfl; have e24 := hs 2 24 (needs_direct (by kernel_rfl)) rfl; simp [Act.eval] at e23 e24
          have hsx := HSX.out
          go_simp; exact hK _ _ (Ext.refl _) rfl
        · -- 26 := Op.move t7
          have e7 := hf 7 rfl; simp [Act.eval] at e7
          go_simp; exact hK _ _ (Ext.refl _) rfl
        · -- 27 := Op.move t9
          have e9 := hf 9 rfl; simp [Act.eval] at e9
          go_simp; exact hK _ _ (Ext.refl _) rfl
        · -- 28 := Op.indexAddr 22 t26 t27
          have e26 := hs 4 26 (needs_direct (by kernel_rfl)) rfl; have e27 := hs 5 27 (needs_direct (by kernel_rfl)) rfl; simp [Act.eval] at e26 e27
          have hix := HIX.out
          go_simp; exact hK _ _ (Ext.refl _) rfl
        · -- 29 := Op.load 5 t28
          have e28 := hs 6 28 (needs_direct (by kernel_rfl)) rfl; simp [Act.eval] at e28
          have hcx := (World.cell?_of_block (a := ⟨p, o, none⟩) (hle.block _ HPB.out)).trans HCB.out
          go_simp; exact hK _ _ (Ext.refl _) rfl
        · -- 30 := Op.binOp BinOp.xor 5 t25 t29 5
          have e25 := hs 3 25 (needs_direct (by kernel_rfl)) rfl; have e29 := hs 7 29 (needs_direct (by kernel_rfl)) rfl; simp [Act.eval] at e25 e29
          have hxx := HXY.out
          go_simp; exact hK _ _ (Ext.refl _) rfl
        · -- 31 := Op.buildSlice 22 1 #[(0, t30)]
          have e30 := hs 8 30 (needs_direct (by kernel_rfl)) rfl; simp [Act.eval] at e30
          go_simp
          exact hK _ _ (Ext.alloc _ _) (by
            obtain ⟨A1, c1, e1, hr1⟩ := own_row (bytes_lit w2 [x1] #[bv x1] rfl 1 rfl (by decide))
            exact ⟨A1, c1, e1, hr1.more fun _ _ => trivial⟩)
      intro vs w8 hle hs
      have v0 := hs 0 (by omega) rfl
      have v9 := hs 9 (by omega) rfl
      simp only at v0 v9
      clear hs
      obtain ⟨A9, c9, e9, hr9⟩ := v9
      have HV8 := hide (HV.out.below hle)
      have HR9 := hide hr9
      have HB8 := hide (HB.out.trans (hle.mono HWR.out))
      have hw8 : w5.heap.size ≤ w8.heap.size := HB8.out.size
      clear hr9 hle
      simp only [putN, dstAt]
      go_simp
      go_wp2_with (at_builtin; go_loud (refine wpList_app (d := kU8) (ok := fun _ => True) (base := w5.heap.size) (ys := [x1]) rfl _ _ _ rfl Tryd.underlying22 u8_info rfl (by decide) c9 rfl rfl (.inl HV8.out) (src8 HR9.out.src) ?_ ?_ ?_ ?_))
      · exact hw8
      · rw [HLK.out]; simp only [maxLen]; omega
      · rw [HLK.out]; omega
      intro v11 w11 _ h11 b11 _ _
      rw [HST.out] at h11
      have HV11 := hide h11
      have HB11 := hide (HB8.out.trans b11)
      clear h11 b11
      go_wp2_with fail
      go_roundw
      case rel => exact ⟨k + 1, hlt, by simp, HV11, HB11⟩
      case measure => simp [intOf]; omega
    · obtain rfl : k = n := by omega
      obtain ⟨A2, c2, e2, hr2⟩ := own_row HV.out
      rw [HLK.out] at e2 hr2
      injection e2 with e1 _ e3
      subst e1 e3
      rw [List.take_of_length_le (by rw [turnd_len, HN.out]; exact Nat.le_refl _)] at hr2
      have hst := row_string (P := Tryd.prog) Tryd.underlying22 Tryd.underlying5 Tryd.underlying9 hr2
      have HBE := hide (HB0.out.trans (HB.out.mono (by omega)))
      clear hr2
      go_wp2_with fail
      go_ret
      exact ⟨rfl, HBE.out⟩
end Go.Proofs.YtdkeflhgengblaaDoor
namespace Go.Proofs.YtdkeflhgengblaaDoor
open Go.RowKit
attribute [local go_sem ↓] ld8 ld32 ld64 ld73
attribute [local go_sem] run_ldAgg run_storeAgg agg_alloc_at agg_alloc_past agg_drew agg_setCell row_alloc_at row_alloc_past row_drew setRow_alloc_at setRow_alloc_past setRow_drew agg_setRow_at agg_setRow_far cell_setRow_at cell_setRow_far row_setRow_far size_setRow s8C_size s8C_part s8C_one s8C_splice0 s8C_ne dgC_size dgC_72 dgC_part dgC_h dgC_r dgC_splice_h dgC_set dgC_one dgC_splice0 dgC_ne zero_dg
attribute [local go_sem] tgC_size tgC_one tgC_part tgC_splice tgC_splice_any zero_tg tgC_ne

theorem two_sizes {a c : List UInt8} (ha : a.length < 1048576) (hc : c.length < 1048576) : ∀ s ∈ [txt a, txt c], s.size ≤ maxLen := by
  intro s hs
  simp only [List.mem_cons, List.not_mem_nil, or_false] at hs
  rcases hs with rfl | rfl <;> (rw [txt_size]; simp only [maxLen]; omega)
theorem mark_len {a c : List UInt8} (ha : a.length < 1048576) (hc : c.length < 1048576) : (frames (uSeal :: [txt a, txt c])).length < 1073741824 := by
  simp only [frames_cons, frames_nil, List.length_append, frm_len, txt_size, List.length_nil]
  rw [show uSeal.size = 4 from rfl]
  omega
theorem txt_add (a b : List UInt8) : txt a ++ txt b = txt (a ++ b) := by
  apply ByteArray.ext
  rw [ByteArray.data_append]
  simp
set_option maxRecDepth 100000 in
set_option maxHeartbeats 800000 in
theorem c_smark (key : Tg) (a c : List UInt8) (w : World) (ha : a.length < 1048576) (hc : c.length < 1048576) (hP : PrimesAt w) :
    Calls Tryd.prog 79 #[tgV key, .string (txt a), .string (txt c)] w fun e w' => e = .returned (.string (txt (markT key a c).l)) ∧ Below w.heap.size w w' := by
  have HP := hide hP
  have hw0 := hP.1
  have HSZ := hide (two_sizes ha hc)
  have HFL := hide (mark_len ha hc)
  obtain ⟨t, htt⟩ : ∃ t, t = markT key a c := ⟨_, rfl⟩
  have HT : Hid (dkey key uSeal [txt a, txt c] = t) := hide (by rw [htt]; rfl)
  have HTT := hide htt
  obtain ⟨W2, hW2⟩ : ∃ W2, W2 = (w.alloc (.cells (tgC key) 29)).alloc (.cells #[.string (txt a), .string (txt c)] 9) := ⟨_, rfl⟩
  have HB2 : Hid (Below w.heap.size w W2) := hide (by rw [hW2]; exact below2 _ _ _)
  have HS2 : Hid (kStr.Row (fun _ => True) W2 (some ⟨w.heap.size + 1, 0, none⟩) 2 2 [txt a, txt c]) := hide (by
    rw [hW2]
    have := strs_row (w := (w.alloc (.cells (tgC key) 29)).alloc (.cells #[.string (txt a), .string (txt c)] 9)) (g := w.heap.size + 1) [txt a, txt c] (by have := heap_alloc_new (w.alloc (.cells (tgC key) 29)) (.cells #[.string (txt a), .string (txt c)] 9); rwa [World.size_alloc] at this) rfl HSZ.out (by simp [maxLen])
    exact this)
  clear hP ha hc htt
  go_enter Tryd.func79, Tryd.ntmps79
  go_wp2_with fail
  rw [← hW2]
  clear hW2
  refine (c_dkey key uSeal _ 2 2 [txt a, txt c] _ W2 HS2.out (by decide) (HP.out.ext HB2.out) HFL.out).mono ?_
  rintro e w5 ⟨rfl, b5⟩
  rw [HT.out]
  have hst := row_string (P := Tryd.prog) Tryd.underlying22 Tryd.underlying5 Tryd.underlying9 (tag_row t (heap_alloc_new w5 (.cells (tgC t) 29)))
  have HB5 := hide (bnext HB2.out b5)
  have HBE : Hid (Below w.heap.size w (w5.alloc (.cells (tgC t) 29))) := hide (HB5.out.alloc HB5.out.size _)
  clear b5
  go_wp2_with fail
  go_ret
  exact ⟨by rw [HTT.out]; rfl, HBE.out⟩
set_option maxRecDepth 100000 in
set_option maxHeartbeats 800000 in
theorem c_seal (key nonce : Tg) (s : List UInt8) (w : World) (hn : s.length < 1048576) (hP : PrimesAt w) :
    Calls Tryd.prog 36 #[tgV key, tgV nonce, .string (txt s)] w fun e w' => e = .returned (.string (txt (sealB key nonce s))) ∧ Below w.heap.size w w' := by
  have HPR : Hid (PrimesAt ((w.alloc (.cells (tgC key) 29)).alloc (.cells (tgC nonce) 29))) := hide (hP.ext (below2 _ _ _))
  have hw0 := hP.1
  have HSL := hide hn
  obtain ⟨W1, hW1⟩ : ∃ W1, W1 = (w.alloc (.cells (tgC key) 29)).alloc (.cells (tgC nonce) 29) := ⟨_, rfl⟩
  rw [← hW1] at HPR
  have HB1 : Hid (Below w.heap.size w W1) := hide (by rw [hW1]; exact below2 _ _ _)
  have HK1 : Hid (W1.heap[w.heap.size]? = some (.cells (tgC key) 29)) := hide (by
    rw [hW1, Below.heap_alloc _ _ _ (by simp only [World.size_alloc]; omega)]; exact heap_alloc_new _ _)
  have HN1 : Hid (W1.heap[w.heap.size + 1]? = some (.cells (tgC nonce) 29)) := hide (by
    rw [hW1]
    have := heap_alloc_new (w.alloc (.cells (tgC key) 29)) (.cells (tgC nonce) 29)
    rwa [World.size_alloc] at this)
  have HNR := hide (tag_row nonce HN1.out)
  obtain ⟨sc, hsc⟩ : ∃ sc, sc = turnd key nonce s := ⟨_, rfl⟩
  have HSC : Hid (turnd key nonce s = sc) := hide hsc.symm
  have HLC : Hid (sc.length < 1048576) := hide (by rw [hsc, turnd_len]; exact hn)
  have HSB : Hid (sealB key nonce s = nonce.l ++ sc ++ (markT key nonce.l sc).l) := hide (by rw [hsc]; rfl)
  clear hP hsc hn
  go_enter Tryd.func36, Tryd.ntmps36
  go_wp2_with fail
  rw [← hW1]
  clear hW1
  refine wp_region_ext mixed 6 (fun i v w' => match i with
    | 0 => v = .slice (some ⟨w.heap.size + 1, 0, none⟩) 32 32
    | 1 => v = .string (txt nonce.l)
    | 2 => v = tgV key
    | 3 => v = tgV nonce
    | 4 => v = .string (txt s)
    | _ => v = .string (txt sc)
    ) (regOk_of (by kernel_rfl)) rfl ?_ ?_ ?_
  · intro i v w1 w2 h1 h2
    split at h2 <;> exact h2
  · refine ⟨fun a w2 hle hd hf hs K hK => ?_, fun a w2 hle hd hf hs K hK => ?_, fun a w2 hle hd hf hs K hK => ?_, fun a w2 hle hd hf hs K hK => ?_, fun a w2 hle hd hf hs K hK => ?_, fun a w2 hle hd hf hs K hK => ?_, trivial⟩
    all_goals clear hd
    · -- 9 := Op.slice 29 t4 none none none
      have e4 := hf 4 rfl; simp [Act.eval] at e4
      go_simp; exact hK _ _ (Ext.refl _) rfl
    · -- 10 := Op.convert 22 9 t9
      have e9 := hs 0 9 (needs_direct (by kernel_rfl)) rfl; simp [Act.eval] at e9
      have hq := row_string (P := Tryd.prog) Tryd.underlying22 Tryd.underlying5 Tryd.underlying9 (HNR.out.below hle)
      go_simp; exact hK _ _ (Ext.refl _) rfl
    · -- 11 := Op.load 29 t3
      have e3 := hf 3 rfl; simp [Act.eval] at e3
      have hq : agg? w2 ⟨w.heap.size, 0, none⟩ 32 = some (tgC key) := (agg_of_row (hle.heap HK1.out) 0 32 (by decide)).trans (tgC_part key)
      go_simp; exact hK _ _ (Ext.refl _) rfl
    · -- 12 := Op.load 29 t4
      have e4 := hf 4 rfl; simp [Act.eval] at e4
      have hq : agg? w2 ⟨w.heap.size + 1, 0, none⟩ 32 = some (tgC nonce) := (agg_of_row (hle.heap HN1.out) 0 32 (by decide)).trans (tgC_part nonce)
      go_simp; exact hK _ _ (Ext.refl _) rfl
    · -- 13 := Op.move t2
      have e2 := hf 2 rfl; simp [Act.eval] at e2
      go_simp; exact hK _ _ (Ext.refl _) rfl
    · -- 14 := Op.call { value (Operand.func 80), args := #[t11, t12, t13], argTypes := #[29, 29, 9] }
      have e11 := hs 2 11 (needs_direct (by kernel_rfl)) rfl; have e12 := hs 3 12 (needs_direct (by kernel_rfl)) rfl; have e13 := hs 4 13 (needs_direct (by kernel_rfl)) rfl; simp [Act.eval] at e11 e12 e13
      go_simp
      refine (c_sturned key nonce s w2 HSL.out (HPR.out.ext hle)).mono ?_
      rintro z w9 ⟨rfl, b9⟩
      rw [HSC.out]
      exact hK _ _ b9 rfl
  intro vs w8 hle hs
  have v1 := hs 1 (by omega) rfl
  have v5 := hs 5 (by omega) rfl
  simp only at v1 v5
  clear hs
  have hag := (agg_of_row (hle.heap HK1.out) 0 32 (by decide)).trans (tgC_part key)
  have HP8 := hide (HPR.out.ext hle)
  have HB8 := hide (HB1.out.trans (hle.mono HB1.out.size))
  clear hle
  have hz1 : (txt nonce.l).size = 32 := by rw [txt_size, nonce.len]
  have hz2 : (txt sc).size < 1048576 := by rw [txt_size]; exact HLC.out
  have hz3 : (txt (markT key nonce.l sc).l).size = 32 := by rw [txt_size, (markT key nonce.l sc).len]
  simp only [putN, dstAt]
  go_simp
  go_wp2_with fail
  refine (c_smark key nonce.l sc w8 (by rw [nonce.len]; decide) HLC.out HP8.out).mono ?_
  rintro e w9 ⟨rfl, b9⟩
  have HB9 := hide (HB8.out.trans (b9.mono HB8.out.size))
  clear b9
  have hz4 : (txt nonce.l ++ txt sc).size < 2097152 := by rw [txt_add, txt_size, List.length_append, nonce.len]; have := HLC.out; omega
  go_wp2_with fail
  go_ret
  refine ⟨?_, HB9.out⟩
  rw [HSB.out, ← txt_add, ← txt_add]
  rfl
end Go.Proofs.YtdkeflhgengblaaDoor
namespace Go.Proofs.YtdkeflhgengblaaDoor
open Go.RowKit
attribute [local go_sem ↓] ld8 ld32 ld64 ld73
attribute [local go_sem] run_ldAgg run_storeAgg agg_alloc_at agg_alloc_past agg_drew agg_setCell row_alloc_at row_alloc_past row_drew setRow_alloc_at setRow_alloc_past setRow_drew agg_setRow_at agg_setRow_far cell_setRow_at cell_setRow_far row_setRow_far size_setRow s8C_size s8C_part s8C_one s8C_splice0 s8C_ne dgC_size dgC_72 dgC_part dgC_h dgC_r dgC_splice_h dgC_set dgC_one dgC_splice0 dgC_ne zero_dg
attribute [local go_sem] tgC_size tgC_one tgC_part tgC_splice tgC_splice_any zero_tg tgC_ne

theorem or_zero8 (u z : UInt8) : u ||| z = 0 ↔ u = 0 ∧ z = 0 := by
  rw [← UInt8.toNat_inj, ← UInt8.toNat_inj, ← UInt8.toNat_inj, UInt8.toNat_or]
  exact Nat.or_eq_zero_iff
theorem xor_zero8 (x y : UInt8) : x ^^^ y = 0 ↔ x = y := UInt8.xor_eq_zero_iff
theorem b_or (u z : UInt8) : bits .or .u8 (u.toNat : Int) (z.toNat : Int) = ((u ||| z).toNat : Int) := u8_or_nat _ _ u.toNat_lt z.toNat_lt
theorem take_eq_next {xs ys : List UInt8} {k : Nat} {x y : UInt8} (hx : xs[k]? = some x) (hy : ys[k]? = some y) : xs.take (k + 1) = ys.take (k + 1) ↔ xs.take k = ys.take k ∧ x = y := by
  rw [List.take_add_one, List.take_add_one, hx, hy]
  have hk1 : k < xs.length := (List.getElem?_eq_some_iff.1 hx).1
  have hk2 : k < ys.length := (List.getElem?_eq_some_iff.1 hy).1
  constructor
  · intro h
    obtain ⟨h1, h2⟩ := List.append_inj h (by rw [List.length_take, List.length_take]; omega)
    exact ⟨h1, by simpa using h2⟩
  · rintro ⟨h1, rfl⟩
    rw [h1]
set_option maxRecDepth 100000 in
set_option maxHeartbeats 800000 in
theorem c_tagequal (A B : Option Addr) (n c m d : Nat) (xs ys : List UInt8) (ok ok' : Nat → Prop) (w : World) (hR : kU8.Row ok w A n c xs) (hS : kU8.Row ok' w B m d ys) :
    Calls Tryd.prog 78 #[.slice A n c, .slice B m d] w fun e w' => e = .returned (.bool (decide (xs = ys))) ∧ Below w.heap.size w w' := by
  have hlx := hR.1
  have hly := hS.1
  have HLX := hide hlx
  have HLY := hide hly
  have HR := hide hR
  have HS := hide hS
  have hbx : n ≤ maxLen := Nat.le_trans hR.2.1 hR.2.2.1
  simp only [maxLen] at hbx
  clear hR hS hlx hly
  by_cases hl : n = m
  · subst hl
    go_enter Tryd.func78, Tryd.ntmps78
    go_wp2_with fail
    go_loopw [5, 15] (fun v i wr => ∃ (k : Nat) (u : UInt8), k ≤ n ∧ i = .int .i64 (k : Int) ∧ v = bv u ∧ Hid (u = 0 ↔ xs.take k = ys.take k) ∧ Hid (Below w.heap.size w wr)) (fun _ i _ => n - (intOf i).toNat)
    case atStart => exact ⟨0, 0, Nat.zero_le _, rfl, rfl, hide (by simp), hide (Below.refl _ _)⟩
    case round =>
      obtain ⟨k, u, hk, rfl, rfl, HE, HB⟩ := hrel
      by_cases hlt : k < n
      · obtain ⟨x, hx⟩ : ∃ x, xs[k]? = some x := ⟨_, List.getElem?_eq_getElem (by have := HLX.out; omega)⟩
        obtain ⟨y, hy⟩ : ∃ y, ys[k]? = some y := ⟨_, List.getElem?_eq_getElem (by have := HLY.out; omega)⟩
        obtain ⟨b1, q1, cs1, hix1, -, hbl1, hK1, hra1⟩ := (HR.out.below HB.out).index (P := Tryd.prog) Tryd.underlying22 (E := 5) u8_info1 hx
        obtain ⟨b2, q2, cs2, hix2, -, hbl2, hK2, hra2⟩ := (HS.out.below HB.out).index (P := Tryd.prog) Tryd.underlying22 (E := 5) u8_info1 hy
        obtain ⟨rfl, -⟩ := hK1
        obtain ⟨rfl, -⟩ := hK2
        have a0 := hra1 0 _ rfl
        have a1 := hra2 0 _ rfl
        simp only [Nat.add_zero] at a0 a1
        obtain ⟨z, hz⟩ : ∃ z, z = x ^^^ y := ⟨_, rfl⟩
        obtain ⟨o, ho⟩ : ∃ o, o = u ||| z := ⟨_, rfl⟩
        have h1 : bits .xor .u8 (x.toNat : Int) (y.toNat : Int) = (z.toNat : Int) := by rw [hz]; exact b_xor x y
        have h2 : bits .or .u8 (u.toNat : Int) (z.toNat : Int) = (o.toNat : Int) := by rw [ho]; exact b_or u z
        have HE2 : Hid (o = 0 ↔ xs.take (k + 1) = ys.take (k + 1)) := hide (by rw [ho, hz, or_zero8, xor_zero8, take_eq_next hx hy, HE.out])
        clear hx hy hra1 hra2 hz ho
        go_wp2_with fail
        go_roundw
        case rel => exact ⟨k + 1, _, hlt, by simp, rfl, HE2, HB⟩
        case measure => simp [intOf]; omega
      · obtain rfl : k = n := by omega
        have HF : Hid (decide (xs = ys) = decide (u = 0)) := hide (by
          have := HE.out
          rw [List.take_of_length_le (Nat.le_of_eq HLX.out), List.take_of_length_le (Nat.le_of_eq HLY.out)] at this
          simp only [this])
        go_wp2_with fail
        go_ret
        refine ⟨?_, HB.out⟩
        rw [HF.out]
        refine congrArg Ending.returned (congrArg Value.bool ?_)
        have e : u = 0 ↔ u.toNat = 0 := by rw [← UInt8.toNat_inj]; rfl
        rw [Bool.eq_iff_iff]
        simp [e]
  · have HF : Hid (decide (xs = ys) = false) := hide (decide_eq_false fun e => by
      subst e
      exact hl (HLX.out.symm.trans HLY.out))
    go_enter Tryd.func78, Tryd.ntmps78
    go_wp2_with fail
    go_ret
    exact ⟨by rw [HF.out]; rfl, Below.refl _ _⟩
end Go.Proofs.YtdkeflhgengblaaDoor
namespace Go.Proofs.YtdkeflhgengblaaDoor
open Go.RowKit
/-- []byte(text), at the operation. -/
theorem wp_tobytes {P : Program} {E : TypeId} {w : World} {op : Oper} {a : Act} {K : Act → World → Prop} {Q : Exit → Act → World → Prop} (S D : TypeId) (x : Operand) (ho : op.op = .convert S D x) (s : ByteArray) (hx : a.eval x = .string s)
    (hS : P.underlying S = some .string) (hD : P.underlying D = some (.slice E)) (hE : P.underlying E = some (.int .u8)) (hs : s.size ≤ 9223372036854775807)
    (k : ∀ c w', kU8.Row (fun k => k = w.heap.size) w' (some ⟨w.heap.size, 0, none⟩) s.size c (byt s) → Below w.heap.size w w' → K (a.put op.dst (.slice (some ⟨w.heap.size, 0, none⟩) s.size c)) w') : op.wp P a w K Q := by
  unfold Oper.wp execOp
  simp only [ho, hx, Sem.run_bind, Sem.run_pure, Result.andThen_ok, Lib.run_convert_string_bytes w S D E s hS hD hE]
  exact k _ _ (bytes_new w E s hs) (bytesWorld_below w E s)

/-- A part of a text. -/
theorem ext_txt (s : List UInt8) (i j : Nat) : (txt s).extract i j = txt ((s.drop i).take (j - i)) := by
  apply ByteArray.ext
  rw [ByteArray.data_extract]
  apply Array.toList_inj.1
  simp [Array.toList_extract, List.extract_eq_take_drop]
theorem ext_is {s l : List UInt8} {i j a b : Nat} (h : (s.drop a).take (b - a) = l) (hi : i = a) (hj : j = b) : Value.string ((txt s).extract i j) = .string (txt l) := by
  subst hi hj
  rw [ext_txt, h]
end Go.Proofs.YtdkeflhgengblaaDoor
namespace Go.Proofs.YtdkeflhgengblaaDoor
open Go.RowKit
attribute [local go_sem ↓] ld8 ld32 ld64 ld73
attribute [local go_sem] run_ldAgg run_storeAgg agg_alloc_at agg_alloc_past agg_drew agg_setCell row_alloc_at row_alloc_past row_drew setRow_alloc_at setRow_alloc_past setRow_drew agg_setRow_at agg_setRow_far cell_setRow_at cell_setRow_far row_setRow_far size_setRow s8C_size s8C_part s8C_one s8C_splice0 s8C_ne dgC_size dgC_72 dgC_part dgC_h dgC_r dgC_splice_h dgC_set dgC_one dgC_splice0 dgC_ne zero_dg
attribute [local go_sem] tgC_size tgC_one tgC_part tgC_splice tgC_splice_any zero_tg tgC_ne

/-- What is opened, as a value. -/
def openV (o : Option (List UInt8)) : Value := .tuple #[.string (txt (o.getD [])), .bool o.isSome]
theorem openB_parts {key : Tg} {s nb cb tb : List UInt8} {E : Nat} (hm : s.length = E + 32) (hE : 32 ≤ E) (h1 : (s.drop 0).take (32 - 0) = nb) (h2 : (s.drop 32).take (E - 32) = cb) (h3 : (s.drop E).take (E + 32 - E) = tb) :
    nb.length = 32 ∧ cb.length = E - 32 ∧ tb.length = 32 ∧ openB key s = if (markT key nb cb).l = tb then some (turnd key (tagL nb) cb) else none := by
  have e1 : s.take 32 = nb := h1
  have e3 : s.drop (s.length - 32) = tb := by
    rw [← h3, List.take_of_length_le (by rw [List.length_drop]; omega), hm, Nat.add_sub_cancel]
  refine ⟨by rw [← e1, List.length_take]; omega, by rw [← h2, List.length_take, List.length_drop]; omega, by rw [← e3, List.length_drop]; omega, ?_⟩
  rw [openB, if_neg (by omega), e1, e3, hm, show E + 32 - 64 = E - 32 by omega, h2]
set_option maxRecDepth 100000 in
set_option maxHeartbeats 1600000 in
theorem c_open (key : Tg) (s : List UInt8) (w : World) (hn : s.length < 1048576) (hP : PrimesAt w) :
    Calls Tryd.prog 34 #[tgV key, .string (txt s)] w fun e w' => e = .returned (openV (openB key s)) ∧ Below w.heap.size w w' := by
  have hw0 := hP.1
  obtain ⟨m, hmm⟩ : ∃ m, m = s.length := ⟨_, rfl⟩
  have hsz : (txt s).size = m := by rw [txt_size, hmm]
  obtain ⟨W1, hW1⟩ : ∃ W1, W1 = w.alloc (.cells (tgC key) 29) := ⟨_, rfl⟩
  have HB1 : Hid (Below w.heap.size w W1) := hide (by rw [hW1]; exact below1 _ _)
  have HK1 : Hid (W1.heap[w.heap.size]? = some (.cells (tgC key) 29)) := hide (by rw [hW1]; exact heap_alloc_new _ _)
  have HP1 : Hid (PrimesAt W1) := hide (hP.ext HB1.out)
  rw [← hmm] at hn
  by_cases h64 : m < 64
  · have HOB : Hid (openB key s = none) := hide (by rw [openB, if_pos (by omega)])
    clear hP hmm
    go_enter Tryd.func34, Tryd.ntmps34
    go_wp2_with fail
    rw [← hW1]
    exact bodyPost_ret (v := openV none) (by simp [results, Tryd.results34, go_sem, openV]) rfl ⟨by rw [HOB.out], HB1.out⟩
  · obtain ⟨E, hE⟩ : ∃ E, m = E + 32 := ⟨m - 32, by omega⟩
    subst hE
    obtain ⟨nb, hnb⟩ : ∃ nb, (s.drop 0).take (32 - 0) = nb := ⟨_, rfl⟩
    obtain ⟨cb, hcb⟩ : ∃ cb, (s.drop 32).take (E - 32) = cb := ⟨_, rfl⟩
    obtain ⟨tb, htb⟩ : ∃ tb, (s.drop E).take (E + 32 - E) = tb := ⟨_, rfl⟩
    obtain ⟨l1, l2, l3, hob⟩ := openB_parts (key := key) hmm.symm (by omega) hnb hcb htb
    obtain ⟨mk, hmk⟩ : ∃ mk, (markT key nb cb).l = mk := ⟨_, rfl⟩
    obtain ⟨tn, htn⟩ : ∃ tn, tagL nb = tn := ⟨_, rfl⟩
    obtain ⟨pl, hpl⟩ : ∃ pl, turnd key tn cb = pl := ⟨_, rfl⟩
    obtain ⟨bq, hbq⟩ : ∃ bq, decide (mk = tb) = bq := ⟨_, rfl⟩
    have hzm : (txt mk).size = 32 := by rw [txt_size, ← hmk, (markT key nb cb).len]
    have hzt : (txt tb).size = 32 := by rw [txt_size, l3]
    have hzn : (txt nb).size = 32 := by rw [txt_size, l1]
    rw [hmk, htn, hpl] at hob
    have hE1 : (32 : Int) ≤ (E : Int) + 32 := by omega
    have hE2 : (32 : Int) ≤ (E : Int) := by omega
    have hE3 : (E : Int) ≤ (E : Int) + 32 := by omega
    have HOB : Hid (openB key s = if bq = true then some pl else none) := hide (by rw [hob, ← hbq]; simp only [decide_eq_true_eq])
    have HNB := hide hnb
    have HCB := hide hcb
    have HTB := hide htb
    have HMK := hide hmk
    have HPL := hide hpl
    have HBQ := hide hbq
    have HL32 := hide l1
    have HTN : Hid ((nb.map bv).toArray = tgC tn) := hide (by rw [← htn, tgC, tagL_l l1])
    have HLN : Hid (nb.length < 1048576) := hide (by omega)
    have HLC : Hid (cb.length < 1048576) := hide (by omega)
    clear hP hmm hnb hcb htb hmk htn hpl hbq l1 l2 l3 hob
    go_enter Tryd.func34, Tryd.ntmps34
    go_wp2_with fail
    rw [← hW1]
    clear hW1
    refine wp_region_ext mixed 7 (fun i v w' => match i with
      | 0 => v = .string (txt s)
      | 1 => v = .string (txt nb)
      | 2 => v = .string (txt s)
      | 3 => v = .int .i64 (E : Int)
      | 4 => v = .string (txt cb)
      | 5 => v = .string (txt nb)
      | _ => v = .string (txt cb)
      ) (regOk_of (by kernel_rfl)) rfl ?_ ?_ ?_
    · intro i v w1 w2 h1 h2
      split at h2 <;> exact h2
    · refine ⟨fun a w2 hle hd hf hs K hK => ?_, fun a w2 hle hd hf hs K hK => ?_, fun a w2 hle hd hf hs K hK => ?_, fun a w2 hle hd hf hs K hK => ?_, fun a w2 hle hd hf hs K hK => ?_, fun a w2 hle hd hf hs K hK => ?_, fun a w2 hle hd hf hs K hK => ?_, trivial⟩
      all_goals clear hd
      · -- 15 := Op.move t1
        have e1 := hf 1 rfl; simp [Act.eval] at e1
        go_simp; exact hK _ _ (Ext.refl _) rfl
      · -- 16 := Op.slice 9 t15 none (some (const (32:i64))) none
        have e15 := hs 0 15 (needs_direct (by kernel_rfl)) rfl; simp [Act.eval] at e15
        go_simp
        exact hK _ _ (Ext.refl _) (ext_is HNB.out rfl rfl)
      · -- 17 := Op.move t1
        have e1 := hf 1 rfl; simp [Act.eval] at e1
        go_simp; exact hK _ _ (Ext.refl _) rfl
      · -- 18 := Op.move t6
        have e6 := hf 6 rfl; simp [Act.eval] at e6
        go_simp; exact hK _ _ (Ext.refl _) rfl
      · -- 19 := Op.slice 9 t17 (some (const (32:i64))) (some t18) none
        have e17 := hs 2 17 (needs_direct (by kernel_rfl)) rfl; have e18 := hs 3 18 (needs_direct (by kernel_rfl)) rfl; simp [Act.eval] at e17 e18
        go_simp
        exact hK _ _ (Ext.refl _) (ext_is HCB.out rfl rfl)
      · -- 7 := Op.assign t16
        have e16 := hs 1 16 (needs_direct (by kernel_rfl)) rfl; simp [Act.eval] at e16
        go_simp; exact hK _ _ (Ext.refl _) rfl
      · -- 8 := Op.assign t19
        have e19 := hs 4 19 (needs_direct (by kernel_rfl)) rfl; simp [Act.eval] at e19
        go_simp; exact hK _ _ (Ext.refl _) rfl
    intro vs w8 hle hs
    have v5 := hs 5 (by omega) rfl
    have v6 := hs 6 (by omega) rfl
    simp only at v5 v6
    clear hs
    have HB2 := hide (HB1.out.trans (hle.mono HB1.out.size))
    have HK2 := hide (hle.heap HK1.out)
    have HP2 := hide (HP1.out.ext hle)
    obtain ⟨W2, hW2⟩ : ∃ W2, W2 = w8 := ⟨_, rfl⟩
    rw [← hW2] at HB2 HK2 HP2 ⊢
    clear hW2 hle HB1 HK1 HP1
    simp only [putN, dstAt]
    go_simp
    go_wp2_with fail
    refine wp_region_ext mixed 11 (fun i v w' => match i with
      | 0 => v = tgV key
      | 1 => v = .string (txt nb)
      | 2 => v = .string (txt cb)
      | 3 => v = .string (txt mk)
      | 4 => ∃ A c, v = .slice A 32 c ∧ kU8.Row (fun _ => True) w' A 32 c mk
      | 5 => v = .string (txt s)
      | 6 => v = .int .i64 (E : Int)
      | 7 => v = .string (txt tb)
      | 8 => ∃ A c, v = .slice A 32 c ∧ kU8.Row (fun _ => True) w' A 32 c tb
      | 9 => v = .bool bq
      | _ => v = .bool (!bq)
      ) (regOk_of (by kernel_rfl)) rfl ?_ ?_ ?_
    · intro i v w1 w2 h1 h2
      split at h2 <;> first | exact h2 | (obtain ⟨A, c, e, hr⟩ := h2; exact ⟨A, c, e, hr.below h1⟩)
    · refine ⟨fun a w2 hle hd hf hs K hK => ?_, fun a w2 hle hd hf hs K hK => ?_, fun a w2 hle hd hf hs K hK => ?_, fun a w2 hle hd hf hs K hK => ?_, fun a w2 hle hd hf hs K hK => ?_, fun a w2 hle hd hf hs K hK => ?_, fun a w2 hle hd hf hs K hK => ?_, fun a w2 hle hd hf hs K hK => ?_, fun a w2 hle hd hf hs K hK => ?_, fun a w2 hle hd hf hs K hK => ?_, fun a w2 hle hd hf hs K hK => ?_, trivial⟩
      all_goals clear hd
      · -- 20 := Op.load 29 t2
        have e2 := hf 2 rfl; simp [Act.eval] at e2
        have hq : agg? w2 ⟨w.heap.size, 0, none⟩ 32 = some (tgC key) := (agg_of_row (hle.heap HK2.out) 0 32 (by decide)).trans (tgC_part key)
        go_simp; exact hK _ _ (Ext.refl _) rfl
      · -- 21 := Op.move t7
        have e7 := hf 7 rfl; simp [Act.eval] at e7
        go_simp; exact hK _ _ (Ext.refl _) rfl
      · -- 22 := Op.move t8
        have e8 := hf 8 rfl; simp [Act.eval] at e8
        go_simp; exact hK _ _ (Ext.refl _) rfl
      · -- 23 := Op.call { value (Operand.func 79), args := #[t20, t21, t22], argTypes := #[29, 9, 9] }
        have e20 := hs 0 20 (needs_direct (by kernel_rfl)) rfl; have e21 := hs 1 21 (needs_direct (by kernel_rfl)) rfl; have e22 := hs 2 22 (needs_direct (by kernel_rfl)) rfl; simp [Act.eval] at e20 e21 e22
        go_simp
        refine (c_smark key nb cb w2 HLN.out HLC.out (HP2.out.ext hle)).mono ?_
        rintro z w9 ⟨rfl, b9⟩
        rw [HMK.out]
        exact hK _ _ b9 rfl
      · -- 24 := Op.convert 9 22 t23
        have e23 := hs 3 23 (needs_direct (by kernel_rfl)) rfl; simp [Act.eval] at e23
        have f23 := hs 3 23 (needs_direct (by kernel_rfl)) rfl
        refine wp_tobytes 9 22 _ rfl (txt mk) f23 Tryd.underlying9 Tryd.underlying22 Tryd.underlying5 (by rw [hzm]; decide) ?_
        intro c w' h1 h2
        rw [byt_txt, hzm] at h1
        rw [hzm]
        exact hK _ _ h2 ⟨_, c, rfl, h1.more fun _ _ => trivial⟩
      · -- 25 := Op.move t1
        have e1 := hf 1 rfl; simp [Act.eval] at e1
        go_simp; exact hK _ _ (Ext.refl _) rfl
      · -- 26 := Op.move t6
        have e6 := hf 6 rfl; simp [Act.eval] at e6
        go_simp; exact hK _ _ (Ext.refl _) rfl
      · -- 27 := Op.slice 9 t25 (some t26) none none
        have e25 := hs 5 25 (needs_direct (by kernel_rfl)) rfl; have e26 := hs 6 26 (needs_direct (by kernel_rfl)) rfl; simp [Act.eval] at e25 e26
        go_simp
        exact hK _ _ (Ext.refl _) (ext_is HTB.out rfl rfl)
      · -- 28 := Op.convert 9 22 t27
        have e27 := hs 7 27 (needs_direct (by kernel_rfl)) rfl; simp [Act.eval] at e27
        have f27 := hs 7 27 (needs_direct (by kernel_rfl)) rfl
        refine wp_tobytes 9 22 _ rfl (txt tb) f27 Tryd.underlying9 Tryd.underlying22 Tryd.underlying5 (by rw [hzt]; decide) ?_
        intro c w' h1 h2
        rw [byt_txt, hzt] at h1
        rw [hzt]
        exact hK _ _ h2 ⟨_, c, rfl, h1.more fun _ _ => trivial⟩
      · -- 29 := Op.call { value (Operand.func 78), args := #[t24, t28], argTypes := #[22, 22] }
        obtain ⟨A24, c24, e24, hr24⟩ := hs 4 24 (needs_direct (by kernel_rfl)) rfl; obtain ⟨A28, c28, e28, hr28⟩ := hs 8 28 (needs_direct (by kernel_rfl)) rfl; simp [Act.eval] at e24 e28
        go_simp
        refine (c_tagequal _ _ 32 c24 32 c28 mk tb _ _ w2 hr24 hr28).mono ?_
        rintro z w9 ⟨rfl, b9⟩
        rw [HBQ.out]
        exact hK _ _ b9 rfl
      · -- 30 := Op.unOp UnOp.not 4 t29
        have e29 := hs 9 29 (needs_direct (by kernel_rfl)) rfl; simp [Act.eval] at e29
        go_simp; exact hK _ _ (Ext.refl _) rfl
    intro vs w8 hle hs
    have v10 := hs 10 (by omega) rfl
    simp only at v10
    clear hs
    have HB3 := hide (HB2.out.trans (hle.mono HB2.out.size))
    have HK3 := hide (hle.heap HK2.out)
    have HP3 := hide (HP2.out.ext hle)
    obtain ⟨W3, hW3⟩ : ∃ W3, W3 = w8 := ⟨_, rfl⟩
    rw [← hW3] at HB3 HK3 HP3 ⊢
    clear hW3 hle HB2 HK2 HP2
    simp only [putN, dstAt]
    go_simp
    cases bq with
    | false =>
      go_wp2_with fail
      exact bodyPost_ret (v := openV none) (by simp [results, Tryd.results34, go_sem, openV]) rfl ⟨by rw [HOB.out]; rfl, HB3.out⟩
    | true =>
      go_wp2_with fail
      refine wp_region_ext mixed 9 (fun i v w' => match i with
        | 0 => v = tgV key
        | 1 => v = .string (txt nb)
        | 2 => ∃ A c, v = .slice A 32 c ∧ kU8.Row (fun _ => True) w' A 32 c nb
        | 3 => ∃ A c, v = .pointer A ∧ kU8.Row (fun _ => True) w' A 32 c nb
        | 4 => v = tgV tn
        | 5 => v = .string (txt cb)
        | 6 => v = .string (txt pl)
        | 7 => v = .string (txt pl)
        | _ => v = .bool true
        ) (regOk_of (by kernel_rfl)) rfl ?_ ?_ ?_
      · intro i v w1 w2 h1 h2
        split at h2 <;> first | exact h2 | (obtain ⟨A, c, e, hr⟩ := h2; exact ⟨A, c, e, hr.below h1⟩)
      · refine ⟨fun a w2 hle hd hf hs K hK => ?_, fun a w2 hle hd hf hs K hK => ?_, fun a w2 hle hd hf hs K hK => ?_, fun a w2 hle hd hf hs K hK => ?_, fun a w2 hle hd hf hs K hK => ?_, fun a w2 hle hd hf hs K hK => ?_, fun a w2 hle hd hf hs K hK => ?_, fun a w2 hle hd hf hs K hK => ?_, fun a w2 hle hd hf hs K hK => ?_, trivial⟩
        all_goals clear hd
        · -- 31 := Op.load 29 t2
          have e2 := hf 2 rfl; simp [Act.eval] at e2
          have hq : agg? w2 ⟨w.heap.size, 0, none⟩ 32 = some (tgC key) := (agg_of_row (hle.heap HK3.out) 0 32 (by decide)).trans (tgC_part key)
          go_simp; exact hK _ _ (Ext.refl _) rfl
        · -- 32 := Op.move t7
          have e7 := hf 7 rfl; simp [Act.eval] at e7
          go_simp; exact hK _ _ (Ext.refl _) rfl
        · -- 33 := Op.convert 9 22 t32
          have e32 := hs 1 32 (needs_direct (by kernel_rfl)) rfl; simp [Act.eval] at e32
          have f32 := hs 1 32 (needs_direct (by kernel_rfl)) rfl
          refine wp_tobytes 9 22 _ rfl (txt nb) f32 Tryd.underlying9 Tryd.underlying22 Tryd.underlying5 (by rw [hzn]; decide) ?_
          intro c w' h1 h2
          rw [byt_txt, hzn] at h1
          rw [hzn]
          exact hK _ _ h2 ⟨_, c, rfl, h1.more fun _ _ => trivial⟩
        · -- 34 := Op.sliceToArrayPointer 29 t33
          obtain ⟨A33, c33, e33, hr33⟩ := hs 2 33 (needs_direct (by kernel_rfl)) rfl; simp [Act.eval] at e33
          obtain ⟨p, o, rfl, -, hb, hc⟩ := row_bytes hr33 (by decide)
          have hap : ∀ wx : World, (Instr.arrayAt 29 (.slice (some ⟨p, o, none⟩) 32 c33)).run Tryd.prog wx = .ok (.pointer (some ⟨p, o, none⟩)) wx := fun wx => by simp [Instr.arrayAt, run_underlying Tryd.underlying29]
          go_simp
          exact hK _ _ (Ext.refl _) ⟨_, c33, rfl, hr33⟩
        · -- 35 := Op.load 29 t34
          obtain ⟨A34, c34, e34, hr34⟩ := hs 3 34 (needs_direct (by kernel_rfl)) rfl; simp [Act.eval] at e34
          obtain ⟨p, o, rfl, -, hb, hc⟩ := row_bytes hr34 (by decide)
          have hag : agg? w2 ⟨p, o, none⟩ 32 = some (tgC tn) := by
            have := agg_range (w := w2) (b := p) (o := o) (cs := nb.map bv) (fun j v hv => by
              rw [List.getElem?_map] at hv
              obtain ⟨x, hx, rfl⟩ := Option.map_eq_some_iff.1 hv
              exact hc j x hx) 32 (by rw [List.length_map]; exact HL32.out)
            rw [this, HTN.out]
          go_simp
          exact hK _ _ (Ext.refl _) rfl
        · -- 36 := Op.move t8
          have e8 := hf 8 rfl; simp [Act.eval] at e8
          go_simp; exact hK _ _ (Ext.refl _) rfl
        · -- 37 := Op.call { value (Operand.func 80), args := #[t31, t35, t36], argTypes := #[29, 29, 9] }
          have e31 := hs 0 31 (needs_direct (by kernel_rfl)) rfl; have e35 := hs 4 35 (needs_direct (by kernel_rfl)) rfl; have e36 := hs 5 36 (needs_direct (by kernel_rfl)) rfl; simp [Act.eval] at e31 e35 e36
          go_simp
          refine (c_sturned key tn cb w2 HLC.out (HP3.out.ext hle)).mono ?_
          rintro z w9 ⟨rfl, b9⟩
          rw [HPL.out]
          exact hK _ _ b9 rfl
        · -- 4 := Op.assign t37
          have e37 := hs 6 37 (needs_direct (by kernel_rfl)) rfl; simp [Act.eval] at e37
          go_simp; exact hK _ _ (Ext.refl _) rfl
        · -- 5 := Op.assign (const (Value.bool true))
          go_simp; exact hK _ _ (Ext.refl _) rfl
      intro vs w8 hle hs
      have v7 := hs 7 (by omega) rfl
      have v8 := hs 8 (by omega) rfl
      simp only at v7 v8
      clear hs
      have HB4 := hide (HB3.out.trans (hle.mono HB3.out.size))
      clear hle
      simp only [putN, dstAt]
      go_simp
      go_wp2_with fail
      exact bodyPost_ret (v := openV (some pl)) (by simp [results, Tryd.results34, go_sem, openV]) rfl ⟨by rw [HOB.out]; rfl, HB4.out⟩
end Go.Proofs.YtdkeflhgengblaaDoor
namespace Go.Proofs.YtdkeflhgengblaaDoor
open Go.RowKit

attribute [local go_sem ↓] ld16 ld17 ld32 ld36
attribute [local go_sem] run_ldAgg run_storeAgg agg_alloc_at agg_alloc_past agg_drew agg_setCell row_alloc_at row_alloc_past row_drew setRow_alloc_at setRow_alloc_past setRow_drew tgC_size tgC_one tgC_part tgC_splice tokC_size tokC_0 tokC_1 tokC_2 tokC_3 tokC_g0 tokC_g1 tokC_g2 tokC_g3 tokC_part tokC_tag tokC_set0 tokC_set1 tokC_set2 tokC_set3 tokC_splice tokC_splice0

/-- A caveat. -/
structure Cav where
  third : Bool
  text : ByteArray
  party : Nat
  id : ByteArray
  vault : ByteArray
  deriving DecidableEq
def Cav.cells (c : Cav) : List Value := [.bool c.third, .string c.text, .int .u64 (c.party : Int), .string c.id, .string c.vault]
def Cav.ok (c : Cav) : Prop := c.text.size ≤ maxLen ∧ c.party < 18446744073709551616 ∧ c.id.size ≤ maxLen ∧ c.vault.size ≤ maxLen
def kCav : Kd Cav where
  sz := 5
  K _ _ c cs := cs = c.cells ∧ c.ok
  len h := by rw [h.1]; rfl
  one h u hu := by
    rw [h.1] at hu
    simp [Cav.cells] at hu
    rcases hu with rfl | rfl | rfl | rfl | rfl <;> rfl
  keep _ h := h
  more _ h := h
  bound h := h
/-- A token. -/
structure Tok where
  key : Nat
  id : ByteArray
  cavs : List Cav
  bnd : Bool
  tag : Tg
  deriving DecidableEq
abbrev tokV (t : Tok) (A : Option Addr) (n c : Nat) : Value := .agg (tokC (.int .u64 (t.key : Int)) (.string t.id) (.slice A n c) (.bool t.bnd) t.tag)
theorem bytes_inj (a b : ByteArray) : a.toList = b.toList ↔ a = b := by
  constructor
  · intro h
    rw [ByteArray.toList_eq, ByteArray.toList_eq] at h
    obtain ⟨⟨a⟩⟩ := a
    obtain ⟨⟨b⟩⟩ := b
    simpa using h
  · rintro rfl
    rfl
abbrev cavV (x : Cav) : Value := .agg #[.bool x.third, .string x.text, .int .u64 (x.party : Int), .string x.id, .string x.vault]
theorem cav_eql (x y : Cav) (wx : World) : (binOp .eql 83 (cavV x) (cavV y)).run Tryd.prog wx = .ok (.bool (decide (x = y))) wx := by
  have e : (decide (x = y)) = (decide (x.third = y.third) && (decide (x.text = y.text) && (decide (x.party = y.party) && (decide (x.id = y.id) && decide (x.vault = y.vault))))) := by
    rw [Bool.eq_iff_iff]
    cases x; cases y
    simp
  rw [e]
  go_simp
  simp only [bytes_inj, Int.natCast_inj]
  repeat' split
  all_goals simp_all
theorem cav_neq {x y : Cav} (h : ¬ x = y) (wx : World) : (binOp .neq 83 (cavV x) (cavV y)).run Tryd.prog wx = .ok (.bool true) wx := by
  go_simp
  simp only [bytes_inj, Int.natCast_inj]
  intro h1 h2 h3 h4 h5
  cases x; cases y
  simp_all
theorem cav_size : (Tryd.prog.info? 83).map (·.size) = some kCav.sz := by kernel_rfl
theorem tok_eq {t u : Tok} : t = u ↔ t.key = u.key ∧ t.id = u.id ∧ t.bnd = u.bnd ∧ t.tag = u.tag ∧ t.cavs = u.cavs := by
  cases t; cases u
  simp only [Tok.mk.injEq]
  constructor
  · rintro ⟨h1, h2, h3, h4, h5⟩; exact ⟨h1, h2, h4, h5, h3⟩
  · rintro ⟨h1, h2, h3, h4, h5⟩; exact ⟨h1, h2, h5, h3, h4⟩
/-- Texts as long as a machine can have them. -/
def Cav.fits (c : Cav) : Prop := c.text.size ≤ 140737488355328 ∧ c.id.size ≤ 140737488355328 ∧ c.vault.size ≤ 140737488355328
theorem heap_new2 (w : World) (o p : Obj) : ((w.alloc o).alloc p).heap[w.heap.size + 1]? = some p := by
  have := heap_alloc_new (w.alloc o) p
  rwa [World.size_alloc] at this
theorem cav_info : (Tryd.prog.info? 83).map (fun i => (i.zero, i.size, i.bytes)) = some (some (.agg #[.bool false, .string ByteArray.empty, .int .u64 0, .string ByteArray.empty, .string ByteArray.empty]), 5, 64) := by kernel_rfl
theorem src_cav {ok ok' : Nat → Prop} {w : World} {A : Option Addr} {m : Nat} {xs : List Cav} (h : kCav.Src ok w A m xs) : kCav.Src ok' w A m xs := let ⟨h1, css, he, hc⟩ := h; ⟨h1, css, ⟨he.1, fun i x cs hx hcs => he.2 i x cs hx hcs⟩, hc⟩
abbrev tokZ : Array Value := tokC (.int .u64 0) (.string ⟨#[]⟩) (.slice none 0 0) (.bool false) Tg.zero
abbrev tokA (t : Tok) (A : Option Addr) (n c : Nat) : Array Value := tokC (.int .u64 (t.key : Int)) (.string t.id) (.slice A n c) (.bool t.bnd) t.tag
end Go.Proofs.YtdkeflhgengblaaDoor
namespace Go.Proofs.YtdkeflhgengblaaDoor
open Go.RowKit
attribute [local go_sem ↓] ld8 ld32 ld64 ld73
attribute [local go_sem] run_ldAgg run_storeAgg agg_alloc_at agg_alloc_past agg_drew agg_setCell row_alloc_at row_alloc_past row_drew setRow_alloc_at setRow_alloc_past setRow_drew agg_setRow_at agg_setRow_far cell_setRow_at cell_setRow_far row_setRow_far size_setRow s8C_size s8C_part s8C_one s8C_splice0 s8C_ne dgC_size dgC_72 dgC_part dgC_h dgC_r dgC_splice_h dgC_set dgC_one dgC_splice0 dgC_ne zero_dg
attribute [local go_sem] tgC_size tgC_one tgC_part tgC_splice tgC_splice_any zero_tg tgC_ne

set_option maxRecDepth 100000 in
set_option maxHeartbeats 800000 in
theorem c_rseal (key nonce : Tg) (s : List UInt8) (w : World) (hn : s.length < 1048576) :
    Calls Tryd.prog 37 #[tgV key, tgV nonce, .string (txt s)] w fun e w' => e = .returned (.string (txt (sealB key nonce s))) ∧ Below w.heap.size w w' := by
  obtain ⟨W1, hW1⟩ : ∃ W1, W1 = (w.alloc (.cells (tgC key) 29)).alloc (.cells (tgC nonce) 29) := ⟨_, rfl⟩
  have HB1 : Hid (Below w.heap.size w W1) := hide (by rw [hW1]; exact below2 _ _ _)
  have hs1 : W1.heap.size = w.heap.size + 2 := by rw [hW1]; simp only [World.size_alloc]
  have HK1 : Hid (W1.heap[w.heap.size]? = some (.cells (tgC key) 29)) := hide (by
    rw [hW1, Below.heap_alloc _ _ _ (by simp only [World.size_alloc]; omega)]; exact heap_alloc_new _ _)
  have HN1 : Hid (W1.heap[w.heap.size + 1]? = some (.cells (tgC nonce) 29)) := hide (by
    rw [hW1]
    have := heap_alloc_new (w.alloc (.cells (tgC key) 29)) (.cells (tgC nonce) 29)
    rwa [World.size_alloc] at this)
  have HNR1 := hide (tag_row nonce HN1.out)
  obtain ⟨sc, hsc⟩ : ∃ sc, sc = turnd key nonce s := ⟨_, rfl⟩
  have HSC : Hid (turnd key nonce s = sc) := hide hsc.symm
  have hlc : sc.length < 1048576 := by rw [hsc, turnd_len]; exact hn
  have HLC := hide hlc
  obtain ⟨t, htt⟩ : ∃ t, t = markT key nonce.l sc := ⟨_, rfl⟩
  have HT : Hid (dkey key uSeal [txt nonce.l, txt sc] = t) := hide (by rw [htt]; rfl)
  have HSB : Hid (sealB key nonce s = nonce.l ++ sc ++ t.l) := hide (by rw [htt, hsc]; rfl)
  have HSZ := hide (two_sizes (a := nonce.l) (c := sc) (by rw [nonce.len]; decide) hlc)
  have HFL := hide (mark_len (a := nonce.l) (c := sc) (by rw [nonce.len]; decide) hlc)
  have HSL := hide hn
  clear hsc htt hlc hn
  go_enter Tryd.func37, Tryd.ntmps37
  go_wp2_with fail
  rw [← hW1]
  clear hW1
  have hag1 : agg? W1 ⟨w.heap.size, 0, none⟩ 32 = some (tgC key) := (agg_of_row HK1.out 0 32 (by decide)).trans (tgC_part key)
  have hag2 : agg? W1 ⟨w.heap.size + 1, 0, none⟩ 32 = some (tgC nonce) := (agg_of_row HN1.out 0 32 (by decide)).trans (tgC_part nonce)
  go_wp2_with fail
  refine (c_rsturned key nonce s W1 HSL.out).mono ?_
  rintro e w5 ⟨rfl, b5⟩
  rw [HSC.out]
  have HK5 := hide ((b5.block _ (by omega)).trans HK1.out)
  have HNR := hide (HNR1.out.below b5)
  have HB5 := hide (HB1.out.trans (b5.mono (by omega)))
  clear b5 hag1 hag2 HK1 HN1 HNR1 HB1
  go_wp2_with fail
  refine wp_region_ext mixed 7 (fun i v w' => match i with
    | 0 => v = tgV key
    | 1 => v = .slice (some ⟨w.heap.size + 1, 0, none⟩) 32 32
    | 2 => v = .string (txt nonce.l)
    | 3 => v = .string (txt sc)
    | 4 => ∃ A c, v = .slice A 2 c ∧ kStr.Row (fun _ => True) w' A 2 c [txt nonce.l, txt sc]
    | 5 => v = tgV t
    | _ => ∃ g, v = .pointer (some ⟨g, 0, none⟩) ∧ w5.heap.size ≤ g ∧ w'.heap[g]? = some (.cells (tgC Tg.zero) 29)
    ) (regOk_of (by kernel_rfl)) rfl ?_ ?_ ?_
  · intro i v w1 w2 h1 h2
    split at h2 <;> first | exact h2 | (obtain ⟨g, rfl, hg⟩ := h2; exact ⟨g, rfl, h1.heap hg⟩) | (obtain ⟨g, rfl, hgl, hg⟩ := h2; exact ⟨g, rfl, hgl, h1.heap hg⟩) | (obtain ⟨A, c, e, hr⟩ := h2; exact ⟨A, c, e, hr.below h1⟩)
  · refine ⟨fun a w2 hle hd hf hs K hK => ?_, fun a w2 hle hd hf hs K hK => ?_, fun a w2 hle hd hf hs K hK => ?_, fun a w2 hle hd hf hs K hK => ?_, fun a w2 hle hd hf hs K hK => ?_, fun a w2 hle hd hf hs K hK => ?_, fun a w2 hle hd hf hs K hK => ?_, trivial⟩
    all_goals clear hd
    · -- 13 := Op.load 29 t3
      have e3 := hf 3 rfl; simp [Act.eval] at e3
      have hq : agg? w2 ⟨w.heap.size, 0, none⟩ 32 = some (tgC key) := (agg_of_row (hle.heap HK5.out) 0 32 (by decide)).trans (tgC_part key)
      go_simp; exact hK _ _ (Ext.refl _) rfl
    · -- 14 := Op.slice 29 t4 none none none
      have e4 := hf 4 rfl; simp [Act.eval] at e4
      go_simp; exact hK _ _ (Ext.refl _) rfl
    · -- 15 := Op.convert 22 9 t14
      have e14 := hs 1 14 (needs_direct (by kernel_rfl)) rfl; simp [Act.eval] at e14
      have hq := row_string (P := Tryd.prog) Tryd.underlying22 Tryd.underlying5 Tryd.underlying9 (HNR.out.below hle)
      go_simp; exact hK _ _ (Ext.refl _) rfl
    · -- 16 := Op.move t7
      have e7 := hf 7 rfl; simp [Act.eval] at e7
      go_simp; exact hK _ _ (Ext.refl _) rfl
    · -- 17 := Op.buildSlice 34 2 #[(0, t15), (1, t16)]
      have e15 := hs 2 15 (needs_direct (by kernel_rfl)) rfl; have e16 := hs 3 16 (needs_direct (by kernel_rfl)) rfl; simp [Act.eval] at e15 e16
      go_simp
      exact hK _ _ (Ext.alloc _ _) ⟨_, _, rfl, strs_row [txt nonce.l, txt sc] (heap_alloc_new _ _) rfl HSZ.out (by simp [maxLen])⟩
    · -- 18 := Op.call { value (Operand.func 23), args := #[t13, const (Value.string { data := #[115, 101, 97, 108] }), t17], argTypes := #[29, 9, 34] }
      have e13 := hs 0 13 (needs_direct (by kernel_rfl)) rfl; obtain ⟨A17, c17, e17, hr17⟩ := hs 4 17 (needs_direct (by kernel_rfl)) rfl; simp [Act.eval] at e13 e17
      go_simp
      refine (c_rkey key uSeal A17 2 c17 [txt nonce.l, txt sc] _ w2 hr17 (by decide) HFL.out).mono ?_
      rintro z w9 ⟨rfl, b9⟩
      rw [HT.out]
      exact hK _ _ b9 rfl
    · -- 8 := Op.alloc 29
      go_simp
      exact hK _ _ (Ext.alloc _ _) ⟨_, rfl, by have := hle.size; omega, heap_alloc_new _ _⟩
  intro vs w8 hle hs
  have v5 := hs 5 (by omega) rfl
  have v6 := hs 6 (by omega) rfl
  simp only at v5 v6
  clear hs
  obtain ⟨g, e6, hgl, hg⟩ := v6
  obtain ⟨W9, hW9⟩ : ∃ W9, W9 = w8.setRow g (tgC t) := ⟨_, rfl⟩
  have hrz := row_of hg
  have hb9 : Below w5.heap.size w5 W9 := by rw [hW9]; exact bsetRow hle hgl _
  have HG9 : W9.heap[g]? = some (.cells (tgC t) 29) := by rw [hW9]; exact setRow_heap w8 g (tgC Tg.zero) (tgC t) 29 _ hg
  have HTR9 := hide (tag_row t HG9)
  have HNR9 := hide (HNR.out.below hb9)
  have HB9 := hide (HB5.out.trans (hb9.mono HB5.out.size))
  have hz1 : (txt nonce.l).size = 32 := by rw [txt_size, nonce.len]
  have hz2 : (txt sc).size < 1048576 := by rw [txt_size]; exact HLC.out
  have hz3 : (txt t.l).size = 32 := by rw [txt_size, t.len]
  have hlc3 : ¬ 9223372036854775807 < 32 + sc.length := by have := HLC.out; omega
  have hlc4 : ¬ 9223372036854775807 < 32 + sc.length + 32 := by have := HLC.out; omega
  have hz4 : (txt nonce.l ++ txt sc).size < 2097152 := by rw [txt_add, txt_size, List.length_append, nonce.len]; have := HLC.out; omega
  clear hg hgl hle hb9 HG9 HK5 HB5 HNR
  simp only [putN, dstAt]
  go_simp
  go_wp2_with fail
  rw [← hW9]
  clear hW9
  refine wp_region_ext mixed 7 (fun i v w' => match i with
    | 0 => v = .slice (some ⟨w.heap.size + 1, 0, none⟩) 32 32
    | 1 => v = .string (txt nonce.l)
    | 2 => v = .string (txt sc)
    | 3 => v = .string (txt nonce.l ++ txt sc)
    | 4 => v = .slice (some ⟨g, 0, none⟩) 32 32
    | 5 => v = .string (txt t.l)
    | _ => v = .string (txt nonce.l ++ txt sc ++ txt t.l)
    ) (regOk_of (by kernel_rfl)) rfl ?_ ?_ ?_
  · intro i v w1 w2 h1 h2
    split at h2 <;> exact h2
  · refine ⟨fun a w2 hle hd hf hs K hK => ?_, fun a w2 hle hd hf hs K hK => ?_, fun a w2 hle hd hf hs K hK => ?_, fun a w2 hle hd hf hs K hK => ?_, fun a w2 hle hd hf hs K hK => ?_, fun a w2 hle hd hf hs K hK => ?_, fun a w2 hle hd hf hs K hK => ?_, trivial⟩
    all_goals clear hd
    · -- 19 := Op.slice 29 t4 none none none
      have e4 := hf 4 rfl; simp [Act.eval] at e4
      go_simp; exact hK _ _ (Ext.refl _) rfl
    · -- 20 := Op.convert 22 9 t19
      have e19 := hs 0 19 (needs_direct (by kernel_rfl)) rfl; simp [Act.eval] at e19
      have hq := row_string (P := Tryd.prog) Tryd.underlying22 Tryd.underlying5 Tryd.underlying9 (HNR9.out.below hle)
      go_simp; exact hK _ _ (Ext.refl _) rfl
    · -- 21 := Op.move t7
      have e7 := hf 7 rfl; simp [Act.eval] at e7
      go_simp; exact hK _ _ (Ext.refl _) rfl
    · -- 22 := Op.binOp BinOp.add 9 t20 t21 9
      have e20 := hs 1 20 (needs_direct (by kernel_rfl)) rfl; have e21 := hs 2 21 (needs_direct (by kernel_rfl)) rfl; simp [Act.eval] at e20 e21
      go_simp; exact hK _ _ (Ext.refl _) rfl
    · -- 23 := Op.slice 29 t8 none none none
      have e8 := hf 8 rfl; simp [Act.eval] at e8
      go_simp; exact hK _ _ (Ext.refl _) rfl
    · -- 24 := Op.convert 22 9 t23
      have e23 := hs 4 23 (needs_direct (by kernel_rfl)) rfl; simp [Act.eval] at e23
      have hq := row_string (P := Tryd.prog) Tryd.underlying22 Tryd.underlying5 Tryd.underlying9 (HTR9.out.below hle)
      go_simp; exact hK _ _ (Ext.refl _) rfl
    · -- 25 := Op.binOp BinOp.add 9 t22 t24 9
      have e22 := hs 3 22 (needs_direct (by kernel_rfl)) rfl; have e24 := hs 5 24 (needs_direct (by kernel_rfl)) rfl; simp [Act.eval] at e22 e24
      go_simp; exact hK _ _ (Ext.refl _) rfl
  intro vs w8 hle hs
  have v6 := hs 6 (by omega) rfl
  simp only at v6
  clear hs
  have HBE := hide (HB9.out.trans (hle.mono HB9.out.size))
  clear hle
  simp only [putN, dstAt]
  go_simp
  go_wp2_with fail
  go_ret
  refine ⟨?_, HBE.out⟩
  rw [HSB.out, ← txt_add, ← txt_add]
  rfl
set_option maxRecDepth 100000 in
set_option maxHeartbeats 800000 in
theorem c_ropen (key : Tg) (s : List UInt8) (w : World) (hn : s.length < 1048576) :
    Calls Tryd.prog 35 #[tgV key, .string (txt s)] w fun e w' => e = .returned (openV (openB key s)) ∧ Below w.heap.size w w' := by
  obtain ⟨m, hmm⟩ : ∃ m, m = s.length := ⟨_, rfl⟩
  have hsz : (txt s).size = m := by rw [txt_size, hmm]
  obtain ⟨W1, hW1⟩ : ∃ W1, W1 = w.alloc (.cells (tgC key) 29) := ⟨_, rfl⟩
  have HB1 : Hid (Below w.heap.size w W1) := hide (by rw [hW1]; exact below1 _ _)
  have HK1 : Hid (W1.heap[w.heap.size]? = some (.cells (tgC key) 29)) := hide (by rw [hW1]; exact heap_alloc_new _ _)
  have hs1 : W1.heap.size = w.heap.size + 1 := by rw [hW1]; simp only [World.size_alloc]
  rw [← hmm] at hn
  by_cases h64 : m < 64
  · have HOB : Hid (openB key s = none) := hide (by rw [openB, if_pos (by omega)])
    clear hmm
    go_enter Tryd.func35, Tryd.ntmps35
    go_wp2_with fail
    rw [← hW1]
    exact bodyPost_ret (v := openV none) (by simp [results, Tryd.results35, go_sem, openV]) rfl ⟨by rw [HOB.out], HB1.out⟩
  · obtain ⟨E, hE⟩ : ∃ E, m = E + 32 := ⟨m - 32, by omega⟩
    subst hE
    obtain ⟨nb, hnb⟩ : ∃ nb, (s.drop 0).take (32 - 0) = nb := ⟨_, rfl⟩
    obtain ⟨cb, hcb⟩ : ∃ cb, (s.drop 32).take (E - 32) = cb := ⟨_, rfl⟩
    obtain ⟨tb, htb⟩ : ∃ tb, (s.drop E).take (E + 32 - E) = tb := ⟨_, rfl⟩
    obtain ⟨l1, l2, l3, hob⟩ := openB_parts (key := key) hmm.symm (by omega) hnb hcb htb
    obtain ⟨tn, htn⟩ : ∃ tn, tagL nb = tn := ⟨_, rfl⟩
    obtain ⟨pl, hpl⟩ : ∃ pl, turnd key tn cb = pl := ⟨_, rfl⟩
    obtain ⟨X, hX⟩ : ∃ X, sealB key tn pl = X := ⟨_, rfl⟩
    have hzn : (txt nb).size = 32 := by rw [txt_size, l1]
    have htl : tn.l = nb := by rw [← htn, tagL_l l1]
    have hbq : X = s ↔ (markT key nb cb).l = tb := by
      have := open_seal (key := key) (s := s) (by omega)
      have e1 : s.take 32 = nb := hnb
      have e2 : (s.drop 32).take (s.length - 64) = cb := by rw [← hcb, ← hmm]; congr 1 <;> omega
      have e3 : s.drop (s.length - 32) = tb := by
        rw [← htb, List.take_of_length_le (by rw [List.length_drop]; omega), ← hmm, Nat.add_sub_cancel]
      rw [e1, e2, e3, htn, hpl, hX] at this
      exact this
    rw [htn, hpl] at hob
    have hE1 : (32 : Int) ≤ (E : Int) + 32 := by omega
    have hE2 : (32 : Int) ≤ (E : Int) := by omega
    have hE3 : (E : Int) ≤ (E : Int) + 32 := by omega
    have HNB := hide hnb
    have HCB := hide hcb
    have HPL := hide hpl
    have HXX := hide hX
    have HL32 := hide l1
    have HTL := hide htl
    have HLC : Hid (cb.length < 1048576) := hide (by omega)
    have HLP : Hid (pl.length < 1048576) := hide (by rw [← hpl, turnd_len]; omega)
    have HOB : Hid (openB key s = if X = s then some pl else none) := hide (by rw [hob]; by_cases h : X = s; rw [if_pos h, if_pos (hbq.1 h)]; rw [if_neg h, if_neg (fun e => h (hbq.2 e))])
    have hn63 : (txt nb).size ≤ 9223372036854775807 := by rw [hzn]; decide
    clear hmm hnb hcb htb htn hpl hX l1 l2 l3 hob htl hbq
    go_enter Tryd.func35, Tryd.ntmps35
    go_wp2_with ((with_reducible show wpList _ _ _ (Oper.mk (some 13) _ _ _ _ _ :: _) _ _); rw [← hW1]; go_loud (refine at_tobytes (P := Tryd.prog) 9 22 (txt nb) (ext_is HNB.out rfl rfl) Tryd.underlying9 Tryd.underlying22 Tryd.underlying5 hn63 (w.heap.size + 1) hs1 ?_))
    clear hW1
    intro c13 w13 h13 b13 _
    rw [byt_txt, hzn, ← HTL.out] at h13
    rw [hzn]
    have HR13 := hide h13
    have HB13 : Hid (Below W1.heap.size W1 w13) := hide (by rw [hs1]; exact b13)
    clear h13 b13
    go_wp2_with fail
    refine (c_rtag tn _ c13 _ w13 HR13.out).mono ?_
    rintro e w14 ⟨rfl, b14⟩
    obtain ⟨G, hG⟩ : ∃ G, G = w14.heap.size := ⟨_, rfl⟩
    obtain ⟨W6, hW6⟩ : ∃ W6, W6 = w14.alloc (.cells (tgC tn) 29) := ⟨_, rfl⟩
    have b16 : Below W1.heap.size W1 W6 := by rw [hW6]; exact (HB13.out.trans (b14.mono HB13.out.size)).alloc (Nat.le_trans HB13.out.size b14.size) _
    have HB6 := hide (HB1.out.trans (b16.mono HB1.out.size))
    have HK6 := hide ((b16.block _ (by omega)).trans HK1.out)
    have HG6 : Hid (W6.heap[G]? = some (.cells (tgC tn) 29)) := hide (by rw [hW6, hG]; exact heap_alloc_new _ _)
    clear b14 b16
    go_wp2_with fail
    rw [← hW6, ← hG]
    clear hW6 hG HB1 HK1 HB13 HR13
    refine wp_region_ext mixed 9 (fun i v w' => match i with
      | 0 => v = tgV key
      | 1 => v = tgV tn
      | 2 => v = .string (txt s)
      | 3 => v = .string (txt s)
      | 4 => v = .int .i64 ((E + 32 : Nat) : Int)
      | 5 => v = .int .i64 (E : Int)
      | 6 => v = .string (txt cb)
      | 7 => v = .string (txt pl)
      | _ => v = .string (txt pl)
      ) (regOk_of (by kernel_rfl)) rfl ?_ ?_ ?_
    · intro i v w1 w2 h1 h2
      split at h2 <;> exact h2
    · refine ⟨fun a w2 hle hd hf hs K hK => ?_, fun a w2 hle hd hf hs K hK => ?_, fun a w2 hle hd hf hs K hK => ?_, fun a w2 hle hd hf hs K hK => ?_, fun a w2 hle hd hf hs K hK => ?_, fun a w2 hle hd hf hs K hK => ?_, fun a w2 hle hd hf hs K hK => ?_, fun a w2 hle hd hf hs K hK => ?_, fun a w2 hle hd hf hs K hK => ?_, trivial⟩
      all_goals clear hd
      · -- 15 := Op.load 29 t2
        have e2 := hf 2 rfl; simp [Act.eval] at e2
        have hq : agg? w2 ⟨w.heap.size, 0, none⟩ 32 = some (tgC key) := (agg_of_row (hle.heap HK6.out) 0 32 (by decide)).trans (tgC_part key)
        go_simp; exact hK _ _ (Ext.refl _) rfl
      · -- 16 := Op.load 29 t6
        have e6 := hf 6 rfl; simp [Act.eval] at e6
        have hq : agg? w2 ⟨G, 0, none⟩ 32 = some (tgC tn) := (agg_of_row (hle.heap HG6.out) 0 32 (by decide)).trans (tgC_part tn)
        go_simp; exact hK _ _ (Ext.refl _) rfl
      · -- 17 := Op.move t1
        have e1 := hf 1 rfl; simp [Act.eval] at e1
        go_simp; exact hK _ _ (Ext.refl _) rfl
      · -- 18 := Op.move t1
        have e1 := hf 1 rfl; simp [Act.eval] at e1
        go_simp; exact hK _ _ (Ext.refl _) rfl
      · -- 19 := Op.call { builtin len, args := #[t18], argTypes := #[9] }
        have e18 := hs 3 18 (needs_direct (by kernel_rfl)) rfl; simp [Act.eval] at e18
        go_simp
        exact hK _ _ (Ext.refl _) (by simp)
      · -- 20 := Op.binOp BinOp.sub 3 t19 (const (32:i64)) 3
        have e19 := hs 4 19 (needs_direct (by kernel_rfl)) rfl; simp [Act.eval] at e19
        go_simp
        exact hK _ _ (Ext.refl _) (by simp; exact wrap64s (by omega) (by omega))
      · -- 21 := Op.slice 9 t17 (some (const (32:i64))) (some t20) none
        have e17 := hs 2 17 (needs_direct (by kernel_rfl)) rfl; have e20 := hs 5 20 (needs_direct (by kernel_rfl)) rfl; simp [Act.eval] at e17 e20
        go_simp
        exact hK _ _ (Ext.refl _) (ext_is HCB.out rfl rfl)
      · -- 22 := Op.call { value (Operand.func 81), args := #[t15, t16, t21], argTypes := #[29, 29, 9] }
        have e15 := hs 0 15 (needs_direct (by kernel_rfl)) rfl; have e16 := hs 1 16 (needs_direct (by kernel_rfl)) rfl; have e21 := hs 6 21 (needs_direct (by kernel_rfl)) rfl; simp [Act.eval] at e15 e16 e21
        go_simp
        refine (c_rsturned key tn cb w2 HLC.out).mono ?_
        rintro z w9 ⟨rfl, b9⟩
        rw [HPL.out]
        exact hK _ _ b9 rfl
      · -- 7 := Op.assign t22
        have e22 := hs 7 22 (needs_direct (by kernel_rfl)) rfl; simp [Act.eval] at e22
        go_simp; exact hK _ _ (Ext.refl _) rfl
    intro vs w8 hle hs
    have v8 := hs 8 (by omega) rfl
    simp only at v8
    clear hs
    have HB8 := hide (HB6.out.trans (hle.mono HB6.out.size))
    have HK8 := hide (hle.heap HK6.out)
    have HG8 := hide (hle.heap HG6.out)
    have hag1 : agg? w8 ⟨w.heap.size, 0, none⟩ 32 = some (tgC key) := (agg_of_row HK8.out 0 32 (by decide)).trans (tgC_part key)
    have hag2 : agg? w8 ⟨G, 0, none⟩ 32 = some (tgC tn) := (agg_of_row HG8.out 0 32 (by decide)).trans (tgC_part tn)
    clear hle
    simp only [putN, dstAt]
    go_simp
    go_wp2_with fail
    refine (c_rseal key tn pl w8 HLP.out).mono ?_
    rintro e w9 ⟨rfl, b9⟩
    rw [HXX.out]
    have HB9 := hide (HB8.out.trans (b9.mono HB8.out.size))
    clear b9 hag1 hag2
    by_cases hq : X = s
    · have HOB2 : Hid (openB key s = some pl) := hide (by rw [HOB.out, if_pos hq])
      subst hq
      clear HOB
      go_wp2_with fail
      exact bodyPost_ret (v := openV (some pl)) (by simp [results, Tryd.results35, go_sem, openV]) rfl ⟨by rw [HOB2.out], HB9.out⟩
    · have HOB2 : Hid (openB key s = none) := hide (by rw [HOB.out, if_neg hq])
      have hq2 : (X == s) = false := by simp [hq]
      clear HOB hq
      go_wp2_with fail
      exact bodyPost_ret (v := openV none) (by simp [results, Tryd.results35, go_sem, openV]) rfl ⟨by rw [HOB2.out], HB9.out⟩
end Go.Proofs.YtdkeflhgengblaaDoor
namespace Go.Proofs.YtdkeflhgengblaaDoor
open Go.RowKit
attribute [local go_sem ↓] ld8 ld32 ld64 ld73
attribute [local go_sem] run_ldAgg run_storeAgg agg_alloc_at agg_alloc_past agg_drew agg_setCell row_alloc_at row_alloc_past row_drew setRow_alloc_at setRow_alloc_past setRow_drew agg_setRow_at agg_setRow_far cell_setRow_at cell_setRow_far row_setRow_far size_setRow s8C_size s8C_part s8C_one s8C_splice0 s8C_ne dgC_size dgC_72 dgC_part dgC_h dgC_r dgC_splice_h dgC_set dgC_one dgC_splice0 dgC_ne zero_dg
attribute [local go_sem] tgC_size tgC_one tgC_part tgC_splice tgC_splice_any zero_tg tgC_ne

def tgN (x : UInt8) : Tg := ⟨x :: List.replicate 31 0, by rw [List.length_cons, List.length_replicate]⟩
theorem tg1 : (#[.int .u8 1, .int .u8 0, .int .u8 0, .int .u8 0, .int .u8 0, .int .u8 0, .int .u8 0, .int .u8 0, .int .u8 0, .int .u8 0, .int .u8 0, .int .u8 0, .int .u8 0, .int .u8 0, .int .u8 0, .int .u8 0, .int .u8 0, .int .u8 0, .int .u8 0, .int .u8 0, .int .u8 0, .int .u8 0, .int .u8 0, .int .u8 0, .int .u8 0, .int .u8 0, .int .u8 0, .int .u8 0, .int .u8 0, .int .u8 0, .int .u8 0, .int .u8 0] : Array Value) = tgC (tgN 1) := rfl
theorem tg2 : (#[.int .u8 2, .int .u8 0, .int .u8 0, .int .u8 0, .int .u8 0, .int .u8 0, .int .u8 0, .int .u8 0, .int .u8 0, .int .u8 0, .int .u8 0, .int .u8 0, .int .u8 0, .int .u8 0, .int .u8 0, .int .u8 0, .int .u8 0, .int .u8 0, .int .u8 0, .int .u8 0, .int .u8 0, .int .u8 0, .int .u8 0, .int .u8 0, .int .u8 0, .int .u8 0, .int .u8 0, .int .u8 0, .int .u8 0, .int .u8 0, .int .u8 0, .int .u8 0] : Array Value) = tgC (tgN 2) := rfl
theorem tg3 : (#[.int .u8 3, .int .u8 0, .int .u8 0, .int .u8 0, .int .u8 0, .int .u8 0, .int .u8 0, .int .u8 0, .int .u8 0, .int .u8 0, .int .u8 0, .int .u8 0, .int .u8 0, .int .u8 0, .int .u8 0, .int .u8 0, .int .u8 0, .int .u8 0, .int .u8 0, .int .u8 0, .int .u8 0, .int .u8 0, .int .u8 0, .int .u8 0, .int .u8 0, .int .u8 0, .int .u8 0, .int .u8 0, .int .u8 0, .int .u8 0, .int .u8 0, .int .u8 0] : Array Value) = tgC (tgN 3) := rfl
attribute [local go_sem] tg1 tg2 tg3
def abc : List UInt8 := [97, 98, 99]
set_option maxRecDepth 100000 in
set_option maxHeartbeats 800000 in
theorem c_sealalive (w : World) (hP : PrimesAt w) : Calls Tryd.prog 33 #[] w fun e w' => e = .returned (.bool true) ∧ Below w.heap.size w w' := by
  have HP := hide hP
  have hw0 := hP.1
  obtain ⟨X, hX⟩ : ∃ X, sealB (tgN 1) (tgN 2) abc = X := ⟨_, rfl⟩
  have HXX := hide hX
  have hXs : (txt X).size = 67 := by rw [txt_size, ← hX, sealB_len]; rfl
  have HXL : Hid (X.length < 1048576) := hide (by rw [← hX, sealB_len]; decide)
  have HOB : Hid (openB (tgN 1) X = some abc) := hide (by rw [← hX, open_sealed])
  clear hP hX
  go_enter Tryd.func33, Tryd.ntmps33
  go_wp2_with fail
  refine (c_seal (tgN 1) (tgN 2) abc w (by decide) HP.out).mono ?_
  rintro e w1 ⟨rfl, b1⟩
  rw [HXX.out]
  have HB1 := hide b1
  clear b1
  go_wp2_with fail
  refine (c_open (tgN 1) X w1 HXL.out (HP.out.ext HB1.out)).mono ?_
  rintro e w2 ⟨rfl, b2⟩
  rw [HOB.out, show openV (some abc) = .tuple #[.string (txt abc), .bool true] from rfl]
  have HB2 := hide (HB1.out.trans (b2.mono HB1.out.size))
  clear b2
  go_wp2_with fail
  go_ret
  exact ⟨rfl, HB2.out⟩
set_option maxRecDepth 100000 in
set_option maxHeartbeats 1600000 in
theorem c_sealtells (key nonce : Tg) (s : List UInt8) (w : World) (hm : s.length ≤ maxLen) (hP : PrimesAt w) :
    Calls Tryd.prog 6 #[tgV key, tgV nonce, .string (txt s)] w fun e w' => e = .returned (.bool true) ∧ Below w.heap.size w w' := by
  have HP := hide hP
  have hw0 := hP.1
  obtain ⟨n, hnn⟩ : ∃ n, n = s.length := ⟨_, rfl⟩
  have hsz : (txt s).size = n := by rw [txt_size, hnn]
  obtain ⟨W1, hW1⟩ : ∃ W1, W1 = (w.alloc (.cells (tgC key) 29)).alloc (.cells (tgC nonce) 29) := ⟨_, rfl⟩
  have HB1 : Hid (Below w.heap.size w W1) := hide (by rw [hW1]; exact below2 _ _ _)
  have hs1 : W1.heap.size = w.heap.size + 2 := by rw [hW1]; simp only [World.size_alloc]
  have HK1 : Hid (W1.heap[w.heap.size]? = some (.cells (tgC key) 29)) := hide (by
    rw [hW1, Below.heap_alloc _ _ _ (by simp only [World.size_alloc]; omega)]; exact heap_alloc_new _ _)
  have HN1 : Hid (W1.heap[w.heap.size + 1]? = some (.cells (tgC nonce) 29)) := hide (by
    rw [hW1]
    have := heap_alloc_new (w.alloc (.cells (tgC key) 29)) (.cells (tgC nonce) 29)
    rwa [World.size_alloc] at this)
  have HP1 := hide (HP.out.ext HB1.out)
  have hn63 : n ≤ 9223372036854775807 := by rw [hnn]; exact hm
  have HNN := hide hnn
  clear hP hnn hm
  go_enter Tryd.func6, Tryd.ntmps6
  go_wp2_with fail
  rw [← hW1]
  clear hW1
  refine (c_sealalive W1 HP1.out).mono ?_
  rintro e w2 ⟨rfl, b2⟩
  have HB2 := hide (HB1.out.trans (b2.mono (by omega)))
  have HK2 := hide ((b2.block _ (by omega)).trans HK1.out)
  have HN2 := hide ((b2.block _ (by omega)).trans HN1.out)
  have HP2 := hide (HP1.out.ext b2)
  clear b2 HB1 HK1 HN1 HP1 HP
  by_cases h200 : 200 < n
  · go_wp2_with fail
    go_ret
    exact ⟨rfl, HB2.out⟩
  obtain ⟨o, ho⟩ : ∃ o, openB key s = o := ⟨_, rfl⟩
  have HO := hide ho
  obtain ⟨pq, hpq⟩ : ∃ pq, o.getD [] = pq := ⟨_, rfl⟩
  obtain ⟨kq, hkq⟩ : ∃ kq, o.isSome = kq := ⟨_, rfl⟩
  have HOV : Hid (openV o = .tuple #[.string (txt pq), .bool kq]) := hide (by rw [openV, hpq, hkq])
  obtain ⟨X, hX⟩ : ∃ X, sealB key nonce s = X := ⟨_, rfl⟩
  have HX := hide hX
  obtain ⟨st, hst⟩ : ∃ st, strm key nonce n = st := ⟨_, rfl⟩
  have HST := hide hst
  have HSL : Hid (st.length = n) := hide (by rw [← hst, strm_len])
  have HL : Hid (s.length < 1048576) := hide (by have := HNN.out; omega)
  have hn20 : n < 1048576 := by omega
  have hag2 : agg? w2 ⟨w.heap.size, 0, none⟩ 32 = some (tgC key) := (agg_of_row HK2.out 0 32 (by decide)).trans (tgC_part key)
  clear ho hpq hkq hX hst
  go_wp2_with fail
  refine (c_open key s w2 HL.out HP2.out).mono ?_
  rintro e w3 ⟨rfl, b3⟩
  have hw2 : w.heap.size + 2 ≤ w2.heap.size := by have := HB2.out.size; have h := (Array.getElem?_eq_some_iff.1 HN2.out).1; omega
  have HB3 := hide (HB2.out.trans (b3.mono (by omega)))
  have HK3 := hide ((b3.block _ (by omega)).trans HK2.out)
  have HN3 := hide ((b3.block _ (by omega)).trans HN2.out)
  have HP3 := hide (HP2.out.ext b3)
  have hw3 := Nat.le_trans hw2 b3.size
  rw [HO.out, HOV.out]
  clear b3 HB2 HK2 HN2 HP2 hag2 hw2
  have hag3 : agg? w3 ⟨w.heap.size, 0, none⟩ 32 = some (tgC key) := (agg_of_row HK3.out 0 32 (by decide)).trans (tgC_part key)
  go_wp2_with fail
  refine (c_ropen key s w3 HL.out).mono ?_
  rintro e w4 ⟨rfl, b4⟩
  have HB4 := hide (HB3.out.trans (b4.mono (by omega)))
  have HK4 := hide ((b4.block _ (by omega)).trans HK3.out)
  have HN4 := hide ((b4.block _ (by omega)).trans HN3.out)
  have HP4 := hide (HP3.out.ext b4)
  rw [HO.out, HOV.out]
  clear b4 HB3 HK3 HN3 HP3 hag3 hw3
  go_wp2_with fail
  refine wp_region_ext mixed 43 (fun i v w' => match i with
    | 0 => v = tgV key
    | 1 => v = tgV nonce
    | 2 => v = .string (txt s)
    | 3 => v = .string (txt X)
    | 4 => v = tgV key
    | 5 => v = tgV nonce
    | 6 => v = .string (txt s)
    | 7 => v = .string (txt X)
    | 8 => v = .bool true
    | 9 => v = .bool true
    | 10 => v = tgV key
    | 11 => v = tgV nonce
    | 12 => v = .string (txt s)
    | 13 => v = .int .i64 (n : Int)
    | 14 => ∃ A c, v = .slice A n c ∧ kU8.Row (fun _ => True) w' A n c st
    | 15 => v = .string (txt st)
    | 16 => v = tgV key
    | 17 => v = tgV nonce
    | 18 => v = .string (txt s)
    | 19 => v = .int .i64 (n : Int)
    | 20 => ∃ A c, v = .slice A n c ∧ kU8.Row (fun _ => True) w' A n c st
    | 21 => v = .string (txt st)
    | 22 => v = .bool true
    | 23 => v = .bool true
    | 24 => v = .bool true
    | 25 => v = tgV key
    | 26 => v = tgV nonce
    | 27 => ∃ A c, v = .slice A 0 c ∧ kU8.Row (fun _ => True) w' A 0 c []
    | 28 => v = .int .i64 0
    | 29 => v = .bool true
    | 30 => v = .bool true
    | 31 => v = .bool true
    | 32 => v = .string (txt pq)
    | 33 => v = .string (txt pq)
    | 34 => v = .bool true
    | 35 => v = .bool true
    | 36 => v = .bool true
    | 37 => v = .bool kq
    | 38 => v = .bool kq
    | 39 => v = .bool true
    | 40 => v = .bool true
    | 41 => v = .bool true
    | _ => v = .bool true
    ) (regOk_of (by kernel_rfl)) rfl ?_ ?_ ?_
  · intro i v w1 w2 h1 h2
    split at h2 <;> first | exact h2 | (obtain ⟨A, c, e, hr⟩ := h2; exact ⟨A, c, e, hr.below h1⟩)
  · refine ⟨fun a w2 hle hd hf hs K hK => ?_, fun a w2 hle hd hf hs K hK => ?_, fun a w2 hle hd hf hs K hK => ?_, fun a w2 hle hd hf hs K hK => ?_, fun a w2 hle hd hf hs K hK => ?_, fun a w2 hle hd hf hs K hK => ?_, fun a w2 hle hd hf hs K hK => ?_, fun a w2 hle hd hf hs K hK => ?_, fun a w2 hle hd hf hs K hK => ?_, fun a w2 hle hd hf hs K hK => ?_, fun a w2 hle hd hf hs K hK => ?_, fun a w2 hle hd hf hs K hK => ?_, fun a w2 hle hd hf hs K hK => ?_, fun a w2 hle hd hf hs K hK => ?_, fun a w2 hle hd hf hs K hK => ?_, fun a w2 hle hd hf hs K hK => ?_, fun a w2 hle hd hf hs K hK => ?_, fun a w2 hle hd hf hs K hK => ?_, fun a w2 hle hd hf hs K hK => ?_, fun a w2 hle hd hf hs K hK => ?_, fun a w2 hle hd hf hs K hK => ?_, fun a w2 hle hd hf hs K hK => ?_, fun a w2 hle hd hf hs K hK => ?_, fun a w2 hle hd hf hs K hK => ?_, fun a w2 hle hd hf hs K hK => ?_, fun a w2 hle hd hf hs K hK => ?_, fun a w2 hle hd hf hs K hK => ?_, fun a w2 hle hd hf hs K hK => ?_, fun a w2 hle hd hf hs K hK => ?_, fun a w2 hle hd hf hs K hK => ?_, fun a w2 hle hd hf hs K hK => ?_, fun a w2 hle hd hf hs K hK => ?_, fun a w2 hle hd hf hs K hK => ?_, fun a w2 hle hd hf hs K hK => ?_, fun a w2 hle hd hf hs K hK => ?_, fun a w2 hle hd hf hs K hK => ?_, fun a w2 hle hd hf hs K hK => ?_, fun a w2 hle hd hf hs K hK => ?_, fun a w2 hle hd hf hs K hK => ?_, fun a w2 hle hd hf hs K hK => ?_, fun a w2 hle hd hf hs K hK => ?_, fun a w2 hle hd hf hs K hK => ?_, fun a w2 hle hd hf hs K hK => ?_, trivial⟩
    all_goals clear hd
    · -- 28 := Op.load 29 t3
      have e3 := hf 3 rfl; simp [Act.eval] at e3
      have hq : agg? w2 ⟨w.heap.size, 0, none⟩ 32 = some (tgC key) := (agg_of_row (hle.heap HK4.out) 0 32 (by decide)).trans (tgC_part key)
      go_simp; exact hK _ _ (Ext.refl _) rfl
    · -- 29 := Op.load 29 t4
      have e4 := hf 4 rfl; simp [Act.eval] at e4
      have hq : agg? w2 ⟨w.heap.size + 1, 0, none⟩ 32 = some (tgC nonce) := (agg_of_row (hle.heap HN4.out) 0 32 (by decide)).trans (tgC_part nonce)
      go_simp; exact hK _ _ (Ext.refl _) rfl
    · -- 30 := Op.move t2
      have e2 := hf 2 rfl; simp [Act.eval] at e2
      go_simp; exact hK _ _ (Ext.refl _) rfl
    · -- 31 := Op.call { value (Operand.func 36), args := #[t28, t29, t30], argTypes := #[29, 29, 9] }
      have e28 := hs 0 28 (needs_direct (by kernel_rfl)) rfl; have e29 := hs 1 29 (needs_direct (by kernel_rfl)) rfl; have e30 := hs 2 30 (needs_direct (by kernel_rfl)) rfl; simp [Act.eval] at e28 e29 e30
      go_simp
      refine (c_seal key nonce s w2 HL.out (HP4.out.ext hle)).mono ?_
      rintro z w9 ⟨rfl, b9⟩
      rw [HX.out]
      exact hK _ _ b9 rfl
    · -- 32 := Op.load 29 t3
      have e3 := hf 3 rfl; simp [Act.eval] at e3
      have hq : agg? w2 ⟨w.heap.size, 0, none⟩ 32 = some (tgC key) := (agg_of_row (hle.heap HK4.out) 0 32 (by decide)).trans (tgC_part key)
      go_simp; exact hK _ _ (Ext.refl _) rfl
    · -- 33 := Op.load 29 t4
      have e4 := hf 4 rfl; simp [Act.eval] at e4
      have hq : agg? w2 ⟨w.heap.size + 1, 0, none⟩ 32 = some (tgC nonce) := (agg_of_row (hle.heap HN4.out) 0 32 (by decide)).trans (tgC_part nonce)
      go_simp; exact hK _ _ (Ext.refl _) rfl
    · -- 34 := Op.move t2
      have e2 := hf 2 rfl; simp [Act.eval] at e2
      go_simp; exact hK _ _ (Ext.refl _) rfl
    · -- 35 := Op.call { value (Operand.func 37), args := #[t32, t33, t34], argTypes := #[29, 29, 9] }
      have e32 := hs 4 32 (needs_direct (by kernel_rfl)) rfl; have e33 := hs 5 33 (needs_direct (by kernel_rfl)) rfl; have e34 := hs 6 34 (needs_direct (by kernel_rfl)) rfl; simp [Act.eval] at e32 e33 e34
      go_simp
      refine (c_rseal key nonce s w2 HL.out).mono ?_
      rintro z w9 ⟨rfl, b9⟩
      rw [HX.out]
      exact hK _ _ b9 rfl
    · -- 36 := Op.binOp BinOp.eql 9 t31 t35 9
      have e31 := hs 3 31 (needs_direct (by kernel_rfl)) rfl; have e35 := hs 7 35 (needs_direct (by kernel_rfl)) rfl; simp [Act.eval] at e31 e35
      go_simp; exact hK _ _ (Ext.refl _) rfl
    · -- 37 := Op.move t36
      have e36 := hs 8 36 (needs_direct (by kernel_rfl)) rfl; simp [Act.eval] at e36
      go_simp; exact hK _ _ (Ext.refl _) rfl
    · -- 38 := Op.load 29 t3
      have e3 := hf 3 rfl; have gg := hs 9 37 (needs_direct (by kernel_rfl)) rfl; simp [Act.eval] at e3 gg; replace gg := opt_bool gg
      have hq : agg? w2 ⟨w.heap.size, 0, none⟩ 32 = some (tgC key) := (agg_of_row (hle.heap HK4.out) 0 32 (by decide)).trans (tgC_part key)
      go_simp; exact hK _ _ (Ext.refl _) rfl
    · -- 39 := Op.load 29 t4
      have e4 := hf 4 rfl; have gg := hs 9 37 (needs_direct (by kernel_rfl)) rfl; simp [Act.eval] at e4 gg; replace gg := opt_bool gg
      have hq : agg? w2 ⟨w.heap.size + 1, 0, none⟩ 32 = some (tgC nonce) := (agg_of_row (hle.heap HN4.out) 0 32 (by decide)).trans (tgC_part nonce)
      go_simp; exact hK _ _ (Ext.refl _) rfl
    · -- 40 := Op.move t2
      have e2 := hf 2 rfl; have gg := hs 9 37 (needs_direct (by kernel_rfl)) rfl; simp [Act.eval] at e2 gg; replace gg := opt_bool gg
      go_simp; exact hK _ _ (Ext.refl _) rfl
    · -- 41 := Op.call { builtin len, args := #[t40], argTypes := #[9] }
      have e40 := hs 12 40 (needs_direct (by kernel_rfl)) rfl; have gg := hs 9 37 (needs_direct (by kernel_rfl)) rfl; simp [Act.eval] at e40 gg; replace gg := opt_bool gg
      go_simp; exact hK _ _ (Ext.refl _) rfl
    · -- 42 := Op.call { value (Operand.func 38), args := #[t38, t39, t41], argTypes := #[29, 29, 3] }
      have e38 := hs 10 38 (needs_direct (by kernel_rfl)) rfl; have e39 := hs 11 39 (needs_direct (by kernel_rfl)) rfl; have e41 := hs 13 41 (needs_direct (by kernel_rfl)) rfl; have gg := hs 9 37 (needs_direct (by kernel_rfl)) rfl; simp [Act.eval] at e38 e39 e41 gg; replace gg := opt_bool gg
      go_simp
      refine (c_stream key nonce _ n w2 (by simp) hn20 (HP4.out.ext hle)).mono ?_
      rintro z w9 ⟨v9, rfl, h9, b9⟩
      obtain ⟨A8, c8, rfl, hr8⟩ := own_row h9
      rw [HST.out, HSL.out] at hr8
      rw [HST.out, HSL.out]
      exact hK _ _ b9 ⟨A8, c8, rfl, hr8.more fun _ _ => trivial⟩
    · -- 43 := Op.convert 22 9 t42
      obtain ⟨A42, c42, e42, hr42⟩ := hs 14 42 (needs_direct (by kernel_rfl)) rfl; have gg := hs 9 37 (needs_direct (by kernel_rfl)) rfl; simp [Act.eval] at e42 gg; replace gg := opt_bool gg
      have hq := row_string (P := Tryd.prog) Tryd.underlying22 Tryd.underlying5 Tryd.underlying9 hr42
      go_simp; exact hK _ _ (Ext.refl _) rfl
    · -- 44 := Op.load 29 t3
      have e3 := hf 3 rfl; have gg := hs 9 37 (needs_direct (by kernel_rfl)) rfl; simp [Act.eval] at e3 gg; replace gg := opt_bool gg
      have hq : agg? w2 ⟨w.heap.size, 0, none⟩ 32 = some (tgC key) := (agg_of_row (hle.heap HK4.out) 0 32 (by decide)).trans (tgC_part key)
      go_simp; exact hK _ _ (Ext.refl _) rfl
    · -- 45 := Op.load 29 t4
      have e4 := hf 4 rfl; have gg := hs 9 37 (needs_direct (by kernel_rfl)) rfl; simp [Act.eval] at e4 gg; replace gg := opt_bool gg
      have hq : agg? w2 ⟨w.heap.size + 1, 0, none⟩ 32 = some (tgC nonce) := (agg_of_row (hle.heap HN4.out) 0 32 (by decide)).trans (tgC_part nonce)
      go_simp; exact hK _ _ (Ext.refl _) rfl
    · -- 46 := Op.move t2
      have e2 := hf 2 rfl; have gg := hs 9 37 (needs_direct (by kernel_rfl)) rfl; simp [Act.eval] at e2 gg; replace gg := opt_bool gg
      go_simp; exact hK _ _ (Ext.refl _) rfl
    · -- 47 := Op.call { builtin len, args := #[t46], argTypes := #[9] }
      have e46 := hs 18 46 (needs_direct (by kernel_rfl)) rfl; have gg := hs 9 37 (needs_direct (by kernel_rfl)) rfl; simp [Act.eval] at e46 gg; replace gg := opt_bool gg
      go_simp; exact hK _ _ (Ext.refl _) rfl
    · -- 48 := Op.call { value (Operand.func 39), args := #[t44, t45, t47], argTypes := #[29, 29, 3] }
      have e44 := hs 16 44 (needs_direct (by kernel_rfl)) rfl; have e45 := hs 17 45 (needs_direct (by kernel_rfl)) rfl; have e47 := hs 19 47 (needs_direct (by kernel_rfl)) rfl; have gg := hs 9 37 (needs_direct (by kernel_rfl)) rfl; simp [Act.eval] at e44 e45 e47 gg; replace gg := opt_bool gg
      go_simp
      refine (c_rstream key nonce _ n w2 (by simp) hn20).mono ?_
      rintro z w9 ⟨v9, rfl, h9, b9⟩
      obtain ⟨A8, c8, rfl, hr8⟩ := own_row h9
      rw [HST.out, HSL.out] at hr8
      rw [HST.out, HSL.out]
      exact hK _ _ b9 ⟨A8, c8, rfl, hr8.more fun _ _ => trivial⟩
    · -- 49 := Op.convert 22 9 t48
      obtain ⟨A48, c48, e48, hr48⟩ := hs 20 48 (needs_direct (by kernel_rfl)) rfl; have gg := hs 9 37 (needs_direct (by kernel_rfl)) rfl; simp [Act.eval] at e48 gg; replace gg := opt_bool gg
      have hq := row_string (P := Tryd.prog) Tryd.underlying22 Tryd.underlying5 Tryd.underlying9 hr48
      go_simp; exact hK _ _ (Ext.refl _) rfl
    · -- 50 := Op.binOp BinOp.eql 9 t43 t49 9
      have e43 := hs 15 43 (needs_direct (by kernel_rfl)) rfl; have e49 := hs 21 49 (needs_direct (by kernel_rfl)) rfl; have gg := hs 9 37 (needs_direct (by kernel_rfl)) rfl; simp [Act.eval] at e43 e49 gg; replace gg := opt_bool gg
      go_simp; exact hK _ _ (Ext.refl _) rfl
    · -- 51 := Op.pick t37 t50 (const (Value.bool false))
      have e37 := hs 9 37 (needs_direct (by kernel_rfl)) rfl; have e50 := hs 22 50 (needs_direct (by kernel_rfl)) rfl; simp [Act.eval] at e37 e50
      go_simp; exact hK _ _ (Ext.refl _) rfl
    · -- 52 := Op.move t51
      have e51 := hs 23 51 (needs_direct (by kernel_rfl)) rfl; simp [Act.eval] at e51
      go_simp; exact hK _ _ (Ext.refl _) rfl
    · -- 53 := Op.load 29 t3
      have e3 := hf 3 rfl; have gg := hs 24 52 (needs_direct (by kernel_rfl)) rfl; simp [Act.eval] at e3 gg; replace gg := opt_bool gg
      have hq : agg? w2 ⟨w.heap.size, 0, none⟩ 32 = some (tgC key) := (agg_of_row (hle.heap HK4.out) 0 32 (by decide)).trans (tgC_part key)
      go_simp; exact hK _ _ (Ext.refl _) rfl
    · -- 54 := Op.load 29 t4
      have e4 := hf 4 rfl; have gg := hs 24 52 (needs_direct (by kernel_rfl)) rfl; simp [Act.eval] at e4 gg; replace gg := opt_bool gg
      have hq : agg? w2 ⟨w.heap.size + 1, 0, none⟩ 32 = some (tgC nonce) := (agg_of_row (hle.heap HN4.out) 0 32 (by decide)).trans (tgC_part nonce)
      go_simp; exact hK _ _ (Ext.refl _) rfl
    · -- 55 := Op.call { value (Operand.func 38), args := #[t53, t54, const (Value.int IntKind.i64 (-1))], argTypes := #[29, 29, 3] }
      have e53 := hs 25 53 (needs_direct (by kernel_rfl)) rfl; have e54 := hs 26 54 (needs_direct (by kernel_rfl)) rfl; have gg := hs 24 52 (needs_direct (by kernel_rfl)) rfl; simp [Act.eval] at e53 e54 gg; replace gg := opt_bool gg
      go_simp
      refine (c_stream key nonce _ 0 w2 (by decide) (by decide) (HP4.out.ext hle)).mono ?_
      rintro z w9 ⟨v9, rfl, h9, b9⟩
      obtain ⟨A8, c8, rfl, hr8⟩ := own_row h9
      have e0 : strm key nonce 0 = [] := rfl
      rw [e0] at hr8 ⊢
      exact hK _ _ b9 ⟨A8, c8, rfl, hr8.more fun _ _ => trivial⟩
    · -- 56 := Op.call { builtin len, args := #[t55], argTypes := #[22] }
      obtain ⟨A55, c55, e55, hr55⟩ := hs 27 55 (needs_direct (by kernel_rfl)) rfl; have gg := hs 24 52 (needs_direct (by kernel_rfl)) rfl; simp [Act.eval] at e55 gg; replace gg := opt_bool gg
      go_simp; exact hK _ _ (Ext.refl _) rfl
    · -- 57 := Op.binOp BinOp.eql 3 t56 (const (0:i64)) 3
      have e56 := hs 28 56 (needs_direct (by kernel_rfl)) rfl; have gg := hs 24 52 (needs_direct (by kernel_rfl)) rfl; simp [Act.eval] at e56 gg; replace gg := opt_bool gg
      go_simp; exact hK _ _ (Ext.refl _) rfl
    · -- 58 := Op.pick t52 t57 (const (Value.bool false))
      have e52 := hs 24 52 (needs_direct (by kernel_rfl)) rfl; have e57 := hs 29 57 (needs_direct (by kernel_rfl)) rfl; simp [Act.eval] at e52 e57
      go_simp; exact hK _ _ (Ext.refl _) rfl
    · -- 59 := Op.move t58
      have e58 := hs 30 58 (needs_direct (by kernel_rfl)) rfl; simp [Act.eval] at e58
      go_simp; exact hK _ _ (Ext.refl _) rfl
    · -- 60 := Op.move t7
      have e7 := hf 7 rfl; have gg := hs 31 59 (needs_direct (by kernel_rfl)) rfl; simp [Act.eval] at e7 gg; replace gg := opt_bool gg
      go_simp; exact hK _ _ (Ext.refl _) rfl
    · -- 61 := Op.move t9
      have e9 := hf 9 rfl; have gg := hs 31 59 (needs_direct (by kernel_rfl)) rfl; simp [Act.eval] at e9 gg; replace gg := opt_bool gg
      go_simp; exact hK _ _ (Ext.refl _) rfl
    · -- 62 := Op.binOp BinOp.eql 9 t60 t61 9
      have e60 := hs 32 60 (needs_direct (by kernel_rfl)) rfl; have e61 := hs 33 61 (needs_direct (by kernel_rfl)) rfl; have gg := hs 31 59 (needs_direct (by kernel_rfl)) rfl; simp [Act.eval] at e60 e61 gg; replace gg := opt_bool gg
      go_simp; exact hK _ _ (Ext.refl _) rfl
    · -- 63 := Op.pick t59 t62 (const (Value.bool false))
      have e59 := hs 31 59 (needs_direct (by kernel_rfl)) rfl; have e62 := hs 34 62 (needs_direct (by kernel_rfl)) rfl; simp [Act.eval] at e59 e62
      go_simp; exact hK _ _ (Ext.refl _) rfl
    · -- 64 := Op.move t63
      have e63 := hs 35 63 (needs_direct (by kernel_rfl)) rfl; simp [Act.eval] at e63
      go_simp; exact hK _ _ (Ext.refl _) rfl
    · -- 65 := Op.move t8
      have e8 := hf 8 rfl; have gg := hs 36 64 (needs_direct (by kernel_rfl)) rfl; simp [Act.eval] at e8 gg; replace gg := opt_bool gg
      go_simp; exact hK _ _ (Ext.refl _) rfl
    · -- 66 := Op.move t10
      have e10 := hf 10 rfl; have gg := hs 36 64 (needs_direct (by kernel_rfl)) rfl; simp [Act.eval] at e10 gg; replace gg := opt_bool gg
      go_simp; exact hK _ _ (Ext.refl _) rfl
    · -- 67 := Op.binOp BinOp.eql 4 t65 t66 4
      have e65 := hs 37 65 (needs_direct (by kernel_rfl)) rfl; have e66 := hs 38 66 (needs_direct (by kernel_rfl)) rfl; have gg := hs 36 64 (needs_direct (by kernel_rfl)) rfl; simp [Act.eval] at e65 e66 gg; replace gg := opt_bool gg
      go_simp; exact hK _ _ (Ext.refl _) rfl
    · -- 68 := Op.pick t64 t67 (const (Value.bool false))
      have e64 := hs 36 64 (needs_direct (by kernel_rfl)) rfl; have e67 := hs 39 67 (needs_direct (by kernel_rfl)) rfl; simp [Act.eval] at e64 e67
      go_simp; exact hK _ _ (Ext.refl _) rfl
    · -- 69 := Op.move t68
      have e68 := hs 40 68 (needs_direct (by kernel_rfl)) rfl; simp [Act.eval] at e68
      go_simp; exact hK _ _ (Ext.refl _) rfl
    · -- 70 := Op.pick t69 (const (Value.bool true)) (const (Value.bool false))
      have e69 := hs 41 69 (needs_direct (by kernel_rfl)) rfl; simp [Act.eval] at e69
      go_simp; exact hK _ _ (Ext.refl _) rfl
  intro vs w8 hle hs
  have v42 := hs 42 (by omega) rfl
  simp only at v42
  clear hs
  have HB9 := hide (HB4.out.trans (hle.mono HB4.out.size))
  clear hle
  simp only [putN, dstAt]
  go_simp
  go_wp2_with fail
  go_ret
  exact ⟨rfl, HB9.out⟩
end Go.Proofs.YtdkeflhgengblaaDoor
namespace Go.Proofs.YtdkeflhgengblaaDoor
open Go.ChangeShapes Go.WideShapes Go.ChangeAt Go.RowKit

def inReach {H : Type} (d : DataW H) (t : TypeId) : Prop := (d.weights Tryd.prog t).all (· ≤ reachBytes) = true
theorem each_part {H : Type} : ∀ {ts : List TypeId} {ds : List (DataW H)} {j : Nat} {t : TypeId} {d : DataW H}, (DataW.weightsEach Tryd.prog ts ds).all (· ≤ reachBytes) = true → ts[j]? = some t → ds[j]? = some d → inReach d t := by
  intro ts ds j t d h ht hd
  unfold inReach
  rw [List.all_eq_true] at h ⊢
  intro n hn
  exact h n (DataW.weights_mem_each ht hd n hn)
theorem all_mem {H : Type} : ∀ {e : TypeId} {ds : List (DataW H)} {d : DataW H}, (DataW.weightsAll Tryd.prog e ds).all (· ≤ reachBytes) = true → d ∈ ds → inReach d e
  | e, [], d, _, hd => by simp at hd
  | e, x :: r, d, h, hd => by
    simp only [DataW.weightsAll, List.all_append, Bool.and_eq_true] at h
    simp only [List.mem_cons] at hd
    rcases hd with rfl | hd
    · exact h.1
    · exact all_mem h.2 hd
theorem reach_str {H : Type} {s : ByteArray} {t : TypeId} (h : inReach (H := H) (.lit (.string s.data.toList)) t) : s.size ≤ 140737488355328 := by
  unfold inReach at h
  simp only [DataW.weights, List.all_cons, List.all_nil, Bool.and_true, decide_eq_true_eq] at h
  have e : s.data.toList.length = s.size := by rw [Array.length_toList]; rfl
  have := reachBytes_lt
  omega
theorem reach_struct {H : Type} {t : TypeId} {fs : Array Field} {parts : List (DataW H)} (hu : Tryd.prog.underlying t = some (.struct fs)) (h : inReach (.agg parts) t) : (DataW.weightsEach Tryd.prog (fs.toList.map (·.type)) parts).all (· ≤ reachBytes) = true := by
  unfold inReach at h
  simpa [DataW.weights, hu] using h
theorem reach_slice {H : Type} {t e : TypeId} {el sp : List (DataW H)} (hu : Tryd.prog.underlying t = some (.slice e)) (h : inReach (.slice el sp) t) : (DataW.weightsAll Tryd.prog e el).all (· ≤ reachBytes) = true := by
  unfold inReach at h
  simp only [DataW.weights, hu, List.all_cons, List.all_append, Bool.and_eq_true] at h
  exact h.2.1
variable {H : Type} {enc : TypeId × Value → H} {w : World} {spare : Nat → Bool} {held : Bool}
/-- As 'trod_row', of elements of which more is known. -/
theorem trod_row_s {α : Type} {d : Kd α} {Q : α → Prop} {t e : TypeId} {fuel : Nat} {cs : List Value} {x : DataW H × List MemPlace} (hT : Tryd.prog.underlying t = some (.slice e)) (hsz : Tryd.prog.cellsOf e = d.sz) (h0 : 0 < d.sz)
    (hel : ∀ n cs x, DataW.trod enc Tryd.prog w 0 spare held n e cs = some x → inReach x.1 e → ∃ y, d.K (· < w.heap.size) w y cs ∧ Q y) (h : DataW.trod enc Tryd.prog w 0 spare held fuel t cs = some x) (hw : inReach x.1 t) :
    ∃ A n c xs, cs = [.slice A n c] ∧ d.Row (· < w.heap.size) w A n c xs ∧ ∀ y ∈ xs, Q y := by
  rcases Go.Deep.open_slice hT h with ⟨rfl, _⟩ | ⟨a, len, cap, m, n, D, Pl, rfl, _, hl, hm, hmm, rfl, hi⟩
  · exact ⟨_, _, _, [], rfl, .nil _ _ _ _ _ (Nat.zero_le _), by simp⟩
  · have hlm : len ≤ m := by rw [hmm]; split <;> omega
    have hE := reach_slice hT hw
    rcases Nat.eq_zero_or_pos len with hz | hpos
    · subst hz
      exact ⟨_, _, _, [], rfl, .nil _ _ _ _ _ hm, by simp⟩
    have hc0 : ∀ i, i < len → ∃ y, ∃ cs', Tryd.prog.cellsOf e = cs'.length ∧ w.cells? 0 (a.add (i * Tryd.prog.cellsOf e)) (Tryd.prog.cellsOf e) = some cs' ∧ d.K (· < w.heap.size) w y cs' ∧ Q y := fun i hil => by
      obtain ⟨cs', hcs, htr⟩ := hi i (by omega)
      obtain ⟨y, hy, hq⟩ := hel _ _ _ htr (all_mem hE (List.mem_map.2 ⟨i, by simpa using hil, rfl⟩))
      obtain ⟨_, hcl, _⟩ := World.cells?_some hcs
      exact ⟨y, cs', hcl.symm, hcs, hy, hq⟩
    have hsp : a.spot = none ∧ a.block < w.heap.size := by
      obtain ⟨y, cs', hcl0, hcs, hy, _⟩ := hc0 0 hpos
      obtain ⟨_, hcl, hat⟩ := World.cells?_some hcs
      have hp : 0 < cs'.length := by rw [hcl, hsz]; exact h0
      have hg : w.cell? a = some (cs'[0]'(by omega)) := by
        have := (hat 0 (by omega)).trans (List.getElem?_eq_getElem (by omega))
        simpa [Addr.add] using this
      exact ⟨World.cell?_spot hg, World.block_lt_of_cell? w _ hg⟩
    obtain ⟨b, o, sp⟩ := a
    obtain ⟨rfl, hlt⟩ := hsp
    have hc : ∀ i, i < len → ∃ y, ∃ cs, (d.K (· < w.heap.size) w y cs ∧ w.rangeAt b (o + i * d.sz) cs) ∧ Q y := fun i hil => by
      obtain ⟨y, cs', _, hcs, hy, hq⟩ := hc0 i hil
      obtain ⟨_, hcl, hat⟩ := World.cells?_some hcs
      rw [hsz] at hcl hat
      refine ⟨y, cs', ⟨hy, fun j v hv => ?_⟩, hq⟩
      have := hat j (by rw [← hcl]; exact (List.getElem?_eq_some_iff.1 hv).1)
      rw [hv, Addr.add_none, Addr.add_none] at this
      exact this
    obtain ⟨xs, hxl, hx⟩ := list_of len hc
    exact ⟨_, _, _, xs, rfl, ⟨hxl, hl, hm, fun hn => ⟨b, o, rfl, hlt, hlt, fun i x hix => let ⟨cs, hq, _⟩ := hx i x hix; ⟨cs, hq⟩⟩⟩, fun y hy => by
      obtain ⟨i, hi', rfl⟩ := List.mem_iff_getElem.1 hy
      obtain ⟨cs, _, hq⟩ := hx i _ (List.getElem?_eq_getElem hi')
      exact hq⟩
theorem str_open_s (n : Nat) (cs : List Value) (x : DataW H × List MemPlace) (h : DataW.trod enc Tryd.prog w 0 spare held n 9 cs = some x) (hw : inReach x.1 9) :
    ∃ y : ByteArray, kStr.K (· < w.heap.size) w y cs ∧ y.size ≤ 140737488355328 := by
  obtain ⟨s, rfl, e, hm⟩ := DataW.trod_string Tryd.underlying9 h
  rw [e] at hw
  exact ⟨s, ⟨rfl, hm⟩, reach_str hw⟩
end Go.Proofs.YtdkeflhgengblaaDoor
namespace Go.Proofs.YtdkeflhgengblaaDoor
open Go.ChangeShapes Go.WideShapes Go.ChangeAt Go.RowKit

set_option maxRecDepth 100000 in
set_option maxHeartbeats 2000000 in
theorem sealTells_lifted (os : Os) (started : os.Started) (H : Type) (enc : TypeId × Value → H) :
    ReturnsInHanded {} Tryd.checked os 6 .any (fun w args => (Rows.sealTellsSpec.pre enc Tryd.prog Tryd.f6 [] false w args ∧ laidMetH Tryd.prog laidD w) ∧ sizedMet enc Tryd.prog Tryd.f6 (OpenSpec.ofChange Rows.sealTellsSpec) false w args)
      (Rows.sealTellsSpec.post enc Tryd.prog Tryd.f6 false true false false) := by
  refine returnsInHanded_of_change_and (C := Tryd.checked) (X := fun w _ => laidMetH Tryd.prog laidD w) (fun _ _ _ hh h => h.of_heap hh) ownKnobD started (by kernel_rfl) Tryd.func6
    (ChangeSpec.witness_shaped (enc := enc) (C := Tryd.checked) (os := os) (X := fun w _ => laidMetH Tryd.prog laidD w) false (World.doorLaid Tryd.prog 400 os) #[.agg #[.int .u8 0, .int .u8 0, .int .u8 0, .int .u8 0, .int .u8 0, .int .u8 0, .int .u8 0, .int .u8 0, .int .u8 0, .int .u8 0, .int .u8 0, .int .u8 0, .int .u8 0, .int .u8 0, .int .u8 0, .int .u8 0, .int .u8 0, .int .u8 0, .int .u8 0, .int .u8 0, .int .u8 0, .int .u8 0, .int .u8 0, .int .u8 0, .int .u8 0, .int .u8 0, .int .u8 0, .int .u8 0, .int .u8 0, .int .u8 0, .int .u8 0, .int .u8 0], .agg #[.int .u8 0, .int .u8 0, .int .u8 0, .int .u8 0, .int .u8 0, .int .u8 0, .int .u8 0, .int .u8 0, .int .u8 0, .int .u8 0, .int .u8 0, .int .u8 0, .int .u8 0, .int .u8 0, .int .u8 0, .int .u8 0, .int .u8 0, .int .u8 0, .int .u8 0, .int .u8 0, .int .u8 0, .int .u8 0, .int .u8 0, .int .u8 0, .int .u8 0, .int .u8 0, .int .u8 0, .int .u8 0, .int .u8 0, .int .u8 0, .int .u8 0, .int .u8 0], .string ByteArray.empty] 8 rfl (World.shaped_of_RefB (by kernel_rfl) (by kernel_rfl)) (by kernel_rfl) (by kernel_rfl) (by kernel_rfl) (door_met os _)) ?_
  intro W base args ds gs before hval0 hW _ hwt hL _
  have hval : ∀ (j : Nat) t v, Tryd.f6.params[j]? = some t → args[j]? = some v → Value.okWide Tryd.prog W .any base t v := hval0
  have hW' := hW
  obtain ⟨p, q, hA0, hV, rfl, hfz, hnd⟩ := hW
  have hA : DataW.TrodAll enc Tryd.prog W 0 (fun _ => true) true Tryd.f6.params.toList args.toList ds p := hA0
  have hw2 : (DataW.weightsEach Tryd.prog (Tryd.f6.params.toList ++ Rows.sealTellsSpec.plain.varTypes Tryd.prog) (ds ++ gs)).all (· ≤ reachBytes) = true := hwt
  rw [Tryd.params6] at hA hval hw2
  obtain ⟨v0, v1, v2, d0, d1, d2, p0, p1, p2, rfl, rfl, rfl, ⟨n0, h0⟩, ⟨n1, h1⟩, ⟨n2, h2⟩⟩ := trodAll_three hA
  obtain ⟨rfl, rfl⟩ := trodVars_none hV
  have g0 := each_part (j := 0) (t := 29) (d := d0) hw2 rfl rfl
  have g1 := each_part (j := 1) (t := 29) (d := d1) hw2 rfl rfl
  have g2 := each_part (j := 2) (t := 9) (d := d2) hw2 rfl rfl
  obtain ⟨C0, rfl⟩ := okWide_tag (hval 0 29 v0 rfl rfl)
  obtain ⟨C1, rfl⟩ := okWide_tag (hval 1 29 v1 rfl rfl)
  obtain ⟨s2, rfl⟩ := okWide_string Tryd.underlying9 (hval 2 9 v2 rfl rfl)
  obtain ⟨key, e0⟩ := open_tag _ _ _ h0
  obtain ⟨nonce, e1⟩ := open_tag _ _ _ h1
  obtain ⟨use, ⟨e2, -⟩, hu⟩ := str_open_s _ _ _ h2 g2
  obtain rfl := Array.toList_inj.1 (show C0.toList = _ from e0)
  obtain rfl := Array.toList_inj.1 (show C1.toList = _ from e1)
  obtain rfl : s2 = use := by simpa [Value.cells] using e2
  obtain ⟨l, rfl⟩ : ∃ l, s2 = txt l := ⟨byt s2, (txt_byt s2).symm⟩
  have hP := primes_of hL
  clear hA0 hval0 h0 h1 h2
  refine (c_sealtells key nonce l W (by have := hu; rw [txt_size] at this; simp only [maxLen]; omega) hP).mono fun e W' ⟨he, hg⟩ => ?_
  subst he
  exact ⟨_, rfl, post_true laidOutD (by kernel_rfl) (by kernel_rfl) Tryd.underlying4 rfl hW' rfl hg⟩

theorem sealTells_row : Rows.SealTellsSaid :=
  OpenClaim.holds_of_wide 6 Tryd.f6 rfl rfl rfl rfl rfl rfl rfl ⟨rfl, rfl, rfl, rfl, rfl⟩ rfl rfl rfl rfl rfl (by kernel_rfl) Tryd.func6 (by kernel_rfl)
    (of_decide_eq_true (by kernel_rfl)) (by unfold Func.isWrapper; first | (rw [if_pos (by decide +kernel)]; kernel_rfl) | (rw [if_neg (by decide +kernel)]; exact ⟨rfl, rfl⟩))
    (fun os started H enc _ => sealTells_lifted os started H enc)
theorem sealTells_proved : Rows.SealTellsCardSaid :=
  Claim7.holds_tied_plain_at .later [] [.data] true (true, "d317ab1675fa3a16e363678a6185963307d92010002b8084dbffbaf3b4b18b17") false
    sealTells_row (fun _ h => by cases h) (by kernel_rfl) (fun _ h => by cases h) sealTells_row_tie rfl ⟨rfl, rfl⟩ (by kernel_rfl) rfl
    (fun f fn hf hfn => by
      obtain rfl : f = 6 := Option.some.inj ((show Tryd.prog.funcNamed "chitty/chittylaw07.SealTells" = some 6 by kernel_rfl).symm.trans hf) |>.symm
      obtain rfl : fn = Tryd.f6 := (Option.some.inj (Tryd.func6.symm.trans hfn)).symm
      exact ⟨by kernel_rfl, fun j t ht => by
        rw [Tryd.params6] at ht
        have hm : t ∈ [29, 29, 9] := by simpa using Array.mem_of_getElem? ht
        have hall : ([29, 29, 9].all fun u => !Tryd.prog.wantsStandIn u) = true := by kernel_rfl
        exact (show Tryd.prog.wantsStandIn t = false by simpa using List.all_eq_true.1 hall t hm)⟩)
    (by kernel_rfl)
end Go.Proofs.YtdkeflhgengblaaDoor
