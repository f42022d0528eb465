/- The document's answer of layer 2: a block done. No condition. -/
import Derived.Test.YtdkeflhgengblaaDoorRs3
namespace Go.Proofs.YtdkeflhgengblaaDoor
open Go.RowKit
theorem idx_own (g n c j : Nat) (hj : j < n) : ∀ wx : World, (Instr.indexAt 161 (.slice (some ⟨g, 0, none⟩) n c) (.int .i64 (j : Int))).run Tryd.prog wx = .ok (.pointer (some ⟨g, j, none⟩)) wx := fun wx => by
  have hE : (Tryd.prog.info? 155).map (·.size) = some 1 := by kernel_rfl
  cases hq : Tryd.prog.info? 155 with
  | none => rw [hq] at hE; cases hE
  | some x =>
    rw [hq] at hE
    have : x.size = 1 := by simpa using hE
    simp [Instr.indexAt, asIntOf, run_underlying Tryd.underlying161, sizeOf, typeInfo, hq, this, hj, Addr.add]
    omega
theorem srcW {ok ok' : Nat → Prop} {w : World} {A : Option Addr} {m : Nat} {xs : List UInt32} (h : kW.Src ok w A m xs) : kW.Src ok' w A m xs := let ⟨h1, css, he, hc⟩ := h; ⟨h1, css, ⟨he.1, fun i x cs hx hcs => he.2 i x cs hx hcs⟩, hc⟩
theorem row_wordI {ok : Nat → Prop} {w : World} {A : Option Addr} {n c : Nat} {l : List UInt32} (z : Int) (h : kW.Row ok w A n c l) {i : Nat} {x : UInt32} (hx : l[i]? = some x) (hz : z = (i : Int)) :
    ∃ p o, (∀ wx : World, (Instr.indexAt 161 (.slice A n c) (.int .i64 z)).run Tryd.prog wx = .ok (.pointer (some ⟨p, o, none⟩)) wx) ∧ w.cell? ⟨p, o, none⟩ = some (wv x) ∧ p < w.heap.size := by
  subst hz
  exact row_word h hx
theorem own_blk {base g n : Nat} {w : World} {l : List UInt32} {C : Array Value} (hg : w.heap[g]? = some (.cells C 155)) (hC : C = wlC l) (hb : base ≤ g) (hn : l.length = n) (hm : n ≤ maxLen) : kW.Own (fun _ => True) base w 155 (.slice (some ⟨g, 0, none⟩) n n) l := by
  have hl := flat_len (words_els (fun _ => True) w l).lens
  rw [List.length_map, hn] at hl
  refine ⟨l.map fun x => [wv x], ⟨by simp, fun i x cs hx hc => (words_els (fun _ => True) w l).2 i x cs hx hc⟩, ?_⟩
  rw [hn]
  have hCl : C.toList = (l.map fun x => [wv x]).flatten := by rw [words_flat, hC, wlC]
  refine ⟨hl, .inr ⟨g, n, C, rfl, hb, hg, Nat.le_refl _, hm, ?_, ?_⟩⟩
  · rw [← Array.length_toList, hCl, hl]
  · rw [hCl, List.take_of_length_le (by omega)]
theorem list_words (s : S8) : s.list = [s.a, s.b, s.c, s.d, s.e, s.f, s.g, s.h] := rfl
set_option maxRecDepth 100000 in
set_option maxHeartbeats 3200000 in
theorem c_rcompress (h : S8) (b : List UInt8) (A0 B : Option Addr) (n0 c0 nb cb : Nat) (ok ok' : Nat → Prop) (w : World) (hRs : kW.Row ok' w A0 n0 c0 h.list) (hRb : kU8.Row ok w B nb cb b) (hb : b.length = 64) : Calls Tryd.prog 106 #[.slice A0 n0 c0, .slice B nb cb] w fun e w' => ∃ v, e = .returned v ∧ kW.Own (fun _ => True) w.heap.size w' 155 v (compress h b).list ∧ Below w.heap.size w w' := by
  have hn0 : n0 = 8 := hRs.1.symm
  subst hn0
  have HRS := hide hRs
  have HRB := hide hRb
  have HBL := hide hb
  clear hRs hRb hb
  go_enter Tryd.func106, Tryd.ntmps106
  go_wp2_with fail
  refine (c_rsched b B nb cb ok w HRB.out HBL.out).mono ?_
  rintro e w1 ⟨v1, rfl, h1, b1⟩
  obtain ⟨Wd, hWd⟩ : ∃ Wd, Wd = schedN b 64 := ⟨_, rfl⟩
  have hWl : Wd.length = 64 := by rw [hWd]; exact schedN_len b 64
  have HCO : Hid (compress h b = (turns h Wd 64).add h) := hide (by rw [hWd]; rfl)
  rw [← hWd] at h1
  obtain ⟨AW, cw, rfl, hrw⟩ := own_rowW h1
  rw [hWl] at hrw ⊢
  have HRW1 := hide hrw
  have HB1 := hide b1
  have hws1 := b1.size
  clear hWd h1 hrw b1
  go_wp2_with fail
  refine (c_rprimes w1).mono ?_
  rintro e w2 ⟨v2, rfl, h2, b2⟩
  have hpl : primesW.length = 64 := rfl
  obtain ⟨PL, hPL⟩ : ∃ PL, PL = primesW := ⟨_, rfl⟩
  have HPL := hide hPL
  rw [← hPL] at h2 hpl
  obtain ⟨AP, cp, rfl, hrp⟩ := own_rowW h2
  rw [hpl] at hrp ⊢
  have HRP2' := hide hrp
  have HRW2' := hide (HRW1.out.below b2)
  have HB2 := hide (bnext HB1.out b2)
  have hws2 := HB2.out.size
  clear hPL h2 hrp b2
  have HO := hide (words_lit w2 [] #[] rfl 0 rfl (Nat.zero_le _))
  have HB3 := hide (bnext HB2.out (below1 w2 (.cells #[] 155)))
  have HRS3 := hide ((HRS.out.below HB2.out).alloc (.cells #[] 155))
  go_wp2_with (at_builtin; go_loud (refine wpList_app (d := kW) (ok := fun _ => True) rfl _ _ _ rfl Tryd.underlying161 w_info rfl (by decide) c0 rfl rfl (.inl HO.out) (srcW HRS3.out.src) ?_ ?_ ?_ ?_))
  · simp
  · simp [maxLen]
  · simp
  intro v4 w4 _ h4 b4 _ _
  have HV4 : Hid (kW.Own (fun _ => True) w2.heap.size w4 155 v4 h.list) := hide h4
  have HE4 := hide ((below1 w2 (.cells #[] 155)).trans b4)
  have HB4 := hide (bnext HB2.out HE4.out)
  have hws4 := HB4.out.size
  have HRW4 := hide (HRW2'.out.below HE4.out)
  have HRP4 := hide (HRP2'.out.below HE4.out)
  have HRS4 := hide ((HRS.out.below HB4.out))
  have HRS' := hide HRS.out
  clear h4 b4
  go_wp2_with fail
  go_loopw [7, 8] (fun v i wr => ∃ (k : Nat), k ≤ 64 ∧ i = .int .i64 (k : Int) ∧ Hid (kW.Own (fun _ => True) w2.heap.size wr 155 v (turns h Wd k).list) ∧ Hid (k = 0 ∨ ∃ g, v = .slice (some ⟨g, 0, none⟩) 8 8 ∧ w2.heap.size ≤ g ∧ wr.heap[g]? = some (.cells (s8C (turns h Wd k)) 155)) ∧ Hid (Below w4.heap.size w4 wr)) (fun _ i _ => 64 - (intOf i).toNat)
  case atStart => exact ⟨0, Nat.zero_le _, rfl, HV4, hide (.inl rfl), hide (Below.refl _ _)⟩
  case round =>
    obtain ⟨k, hk, rfl, HV, HG, HB⟩ := hrel
    have HRW := hide (HRW4.out.below HB.out)
    have HRP := hide (HRP4.out.below HB.out)
    have hwr := HB.out.size
    obtain ⟨s, hs⟩ : ∃ s, s = turns h Wd k := ⟨_, rfl⟩
    by_cases hlt : k < 64
    · have HR0 : Hid (kW.Own (fun _ => True) w2.heap.size wr 155 _ s.list) := hide (by rw [hs]; exact HV.out)
      obtain ⟨A, c, e, hr⟩ := own_rowW HR0.out
      have hl8 : s.list.length = 8 := rfl
      rw [hl8] at e hr
      subst e
      have HR : Hid (kW.Row (fun _ => True) wr A 8 c s.list) := hide hr
      obtain ⟨n1, hn1⟩ : ∃ n1, n1 = 8 := ⟨_, rfl⟩
      obtain ⟨pk, hpk⟩ : ∃ x, PL[k]? = some x := ⟨_, List.getElem?_eq_getElem (by omega)⟩
      obtain ⟨wk, hwk⟩ : ∃ x, Wd[k]? = some x := ⟨_, List.getElem?_eq_getElem (by omega)⟩
      have HST : Hid (turns h Wd (k + 1) = s.turn pk wk) := hide (by
        rw [turns, ← hs]
        simp only [List.getD_eq_getElem?_getD, ← HPL.out, hpk, hwk, Option.getD_some])
      have HPK := hide hpk
      have HWK := hide hwk
      have hws : w2.heap.size ≤ wr.heap.size := Nat.le_trans HE4.out.size hwr
      clear hr hl8 hpk hwk hs HV HR0 HG
      go_wp2_with fail
      obtain ⟨pa_4, oa_4, hia_4, hca_4, -⟩ := row_wordI 4 HR.out (rfl : s.list[4]? = some s.e) rfl
      obtain ⟨y34, hy34⟩ : ∃ y, y = rotr s.e 6 ^^^ rotr s.e 11 := ⟨_, rfl⟩
      obtain ⟨y39, hy39⟩ : ∃ y, y = y34 ^^^ rotr s.e 25 := ⟨_, rfl⟩
      have Hy34 := hide hy34
      have Hy39 := hide hy39
      clear hy34 hy39
      refine wp_region_ext mixed 15 (fun i v w' => match i with
        | 0 => v = .slice A 8 c
        | 1 => v = .pointer (some ⟨pa_4, oa_4, none⟩)
        | 2 => v = wv (s.e)
        | 3 => v = wv (rotr s.e 6)
        | 4 => v = .slice A 8 c
        | 5 => v = .pointer (some ⟨pa_4, oa_4, none⟩)
        | 6 => v = wv (s.e)
        | 7 => v = wv (rotr s.e 11)
        | 8 => v = wv (y34)
        | 9 => v = .slice A 8 c
        | 10 => v = .pointer (some ⟨pa_4, oa_4, none⟩)
        | 11 => v = wv (s.e)
        | 12 => v = wv (rotr s.e 25)
        | 13 => v = wv (y39)
        | _ => v = wv (y39)
        ) (regOk_of (by kernel_rfl)) rfl ?_ ?_ ?_
      · intro i v w1 w2 h1 h2
        split at h2 <;> exact h2
      · refine ⟨fun a w2 hle hd hf hs K hK => ?_, fun a w2 hle hd hf hs K hK => ?_, fun a w2 hle hd hf hs K hK => ?_, fun a w2 hle hd hf hs K hK => ?_, fun a w2 hle hd hf hs K hK => ?_, fun a w2 hle hd hf hs K hK => ?_, fun a w2 hle hd hf hs K hK => ?_, fun a w2 hle hd hf hs K hK => ?_, fun a w2 hle hd hf hs K hK => ?_, fun a w2 hle hd hf hs K hK => ?_, fun a w2 hle hd hf hs K hK => ?_, fun a w2 hle hd hf hs K hK => ?_, fun a w2 hle hd hf hs K hK => ?_, fun a w2 hle hd hf hs K hK => ?_, fun a w2 hle hd hf hs K hK => ?_, trivial⟩
        all_goals clear hd
        · -- 26 := Op.move t7
          have e7 := hf 7 rfl; simp [Act.eval] at e7
          go_simp; exact hK _ _ (Ext.refl _) rfl
        · -- 27 := Op.indexAddr 161 t26 (const (4:i64))
          have e26 := hs 0 26 (needs_direct (by kernel_rfl)) rfl; simp [Act.eval] at e26
          go_simp
          exact hK _ _ (Ext.refl _) rfl
        · -- 28 := Op.load 155 t27
          have e27 := hs 1 27 (needs_direct (by kernel_rfl)) rfl; simp [Act.eval] at e27
          have hq := hle.cell hca_4
          go_simp; exact hK _ _ (Ext.refl _) rfl
        · -- 29 := Op.call { value (Operand.func 126), args := #[t28, const (6:u64)], argTypes := #[155, 165] }
          have e28 := hs 2 28 (needs_direct (by kernel_rfl)) rfl; simp [Act.eval] at e28
          go_simp
          refine (c_rturn s.e 6 w2 (by decide) (by decide)).mono ?_
          rintro e w9 ⟨rfl, rfl⟩
          exact hK _ _ (Ext.refl _) rfl
        · -- 30 := Op.move t7
          have e7 := hf 7 rfl; simp [Act.eval] at e7
          go_simp; exact hK _ _ (Ext.refl _) rfl
        · -- 31 := Op.indexAddr 161 t30 (const (4:i64))
          have e30 := hs 4 30 (needs_direct (by kernel_rfl)) rfl; simp [Act.eval] at e30
          go_simp
          exact hK _ _ (Ext.refl _) rfl
        · -- 32 := Op.load 155 t31
          have e31 := hs 5 31 (needs_direct (by kernel_rfl)) rfl; simp [Act.eval] at e31
          have hq := hle.cell hca_4
          go_simp; exact hK _ _ (Ext.refl _) rfl
        · -- 33 := Op.call { value (Operand.func 126), args := #[t32, const (11:u64)], argTypes := #[155, 165] }
          have e32 := hs 6 32 (needs_direct (by kernel_rfl)) rfl; simp [Act.eval] at e32
          go_simp
          refine (c_rturn s.e 11 w2 (by decide) (by decide)).mono ?_
          rintro e w9 ⟨rfl, rfl⟩
          exact hK _ _ (Ext.refl _) rfl
        · -- 34 := Op.binOp BinOp.xor 155 t29 t33 155
          have e29 := hs 3 29 (needs_direct (by kernel_rfl)) rfl; have e33 := hs 7 33 (needs_direct (by kernel_rfl)) rfl; simp [Act.eval] at e29 e33
          go_simp
          exact hK _ _ (Ext.refl _) (congrArg (Value.int .u32) (by rw [Hy34.out]; exact w_xor (rotr s.e 6) (rotr s.e 11)))
        · -- 35 := Op.move t7
          have e7 := hf 7 rfl; simp [Act.eval] at e7
          go_simp; exact hK _ _ (Ext.refl _) rfl
        · -- 36 := Op.indexAddr 161 t35 (const (4:i64))
          have e35 := hs 9 35 (needs_direct (by kernel_rfl)) rfl; simp [Act.eval] at e35
          go_simp
          exact hK _ _ (Ext.refl _) rfl
        · -- 37 := Op.load 155 t36
          have e36 := hs 10 36 (needs_direct (by kernel_rfl)) rfl; simp [Act.eval] at e36
          have hq := hle.cell hca_4
          go_simp; exact hK _ _ (Ext.refl _) rfl
        · -- 38 := Op.call { value (Operand.func 126), args := #[t37, const (25:u64)], argTypes := #[155, 165] }
          have e37 := hs 11 37 (needs_direct (by kernel_rfl)) rfl; simp [Act.eval] at e37
          go_simp
          refine (c_rturn s.e 25 w2 (by decide) (by decide)).mono ?_
          rintro e w9 ⟨rfl, rfl⟩
          exact hK _ _ (Ext.refl _) rfl
        · -- 39 := Op.binOp BinOp.xor 155 t34 t38 155
          have e34 := hs 8 34 (needs_direct (by kernel_rfl)) rfl; have e38 := hs 12 38 (needs_direct (by kernel_rfl)) rfl; simp [Act.eval] at e34 e38
          go_simp
          exact hK _ _ (Ext.refl _) (congrArg (Value.int .u32) (by rw [Hy39.out]; exact w_xor y34 (rotr s.e 25)))
        · -- 9 := Op.assign t39
          have e39 := hs 13 39 (needs_direct (by kernel_rfl)) rfl; simp [Act.eval] at e39
          go_simp; exact hK _ _ (Ext.refl _) rfl
      intro vs wa hle8 hs
      have v14 := hs 14 (by omega) rfl
      simp only at v14
      clear hs
      have HR1 := hide (HR.out.below hle8)
      have HRP2 := hide (HRP.out.below hle8)
      have HRW2 := hide (HRW.out.below hle8)
      have HE2 := hide (hle8)
      clear hle8 hia_4 hca_4
      simp only [putN, dstAt]
      go_simp
      go_wp2_with fail
      obtain ⟨pb_4, ob_4, hib_4, hcb_4, -⟩ := row_wordI 4 HR1.out (rfl : s.list[4]? = some s.e) rfl
      obtain ⟨pb_5, ob_5, hib_5, hcb_5, -⟩ := row_wordI 5 HR1.out (rfl : s.list[5]? = some s.f) rfl
      obtain ⟨y46, hy46⟩ : ∃ y, y = s.e &&& s.f := ⟨_, rfl⟩
      obtain ⟨y50, hy50⟩ : ∃ y, y = s.e ^^^ (4294967295 : UInt32) := ⟨_, rfl⟩
      obtain ⟨pb_6, ob_6, hib_6, hcb_6, -⟩ := row_wordI 6 HR1.out (rfl : s.list[6]? = some s.g) rfl
      obtain ⟨y54, hy54⟩ : ∃ y, y = y50 &&& s.g := ⟨_, rfl⟩
      obtain ⟨y55, hy55⟩ : ∃ y, y = y46 ||| y54 := ⟨_, rfl⟩
      have Hy46 := hide hy46
      have Hy50 := hide hy50
      have Hy54 := hide hy54
      have Hy55 := hide hy55
      clear hy46 hy50 hy54 hy55
      refine wp_region_ext mixed 17 (fun i v w' => match i with
        | 0 => v = .slice A 8 c
        | 1 => v = .pointer (some ⟨pb_4, ob_4, none⟩)
        | 2 => v = wv (s.e)
        | 3 => v = .slice A 8 c
        | 4 => v = .pointer (some ⟨pb_5, ob_5, none⟩)
        | 5 => v = wv (s.f)
        | 6 => v = wv (y46)
        | 7 => v = .slice A 8 c
        | 8 => v = .pointer (some ⟨pb_4, ob_4, none⟩)
        | 9 => v = wv (s.e)
        | 10 => v = wv (y50)
        | 11 => v = .slice A 8 c
        | 12 => v = .pointer (some ⟨pb_6, ob_6, none⟩)
        | 13 => v = wv (s.g)
        | 14 => v = wv (y54)
        | 15 => v = wv (y55)
        | _ => v = wv (y55)
        ) (regOk_of (by kernel_rfl)) rfl ?_ ?_ ?_
      · intro i v w1 w2 h1 h2
        split at h2 <;> exact h2
      · refine ⟨fun a w2 hle hd hf hs K hK => ?_, fun a w2 hle hd hf hs K hK => ?_, fun a w2 hle hd hf hs K hK => ?_, fun a w2 hle hd hf hs K hK => ?_, fun a w2 hle hd hf hs K hK => ?_, fun a w2 hle hd hf hs K hK => ?_, fun a w2 hle hd hf hs K hK => ?_, fun a w2 hle hd hf hs K hK => ?_, fun a w2 hle hd hf hs K hK => ?_, fun a w2 hle hd hf hs K hK => ?_, fun a w2 hle hd hf hs K hK => ?_, fun a w2 hle hd hf hs K hK => ?_, fun a w2 hle hd hf hs K hK => ?_, fun a w2 hle hd hf hs K hK => ?_, fun a w2 hle hd hf hs K hK => ?_, fun a w2 hle hd hf hs K hK => ?_, fun a w2 hle hd hf hs K hK => ?_, trivial⟩
        all_goals clear hd
        · -- 40 := Op.move t7
          have e7 := hf 7 rfl; simp [Act.eval] at e7
          go_simp; exact hK _ _ (Ext.refl _) rfl
        · -- 41 := Op.indexAddr 161 t40 (const (4:i64))
          have e40 := hs 0 40 (needs_direct (by kernel_rfl)) rfl; simp [Act.eval] at e40
          go_simp
          exact hK _ _ (Ext.refl _) rfl
        · -- 42 := Op.load 155 t41
          have e41 := hs 1 41 (needs_direct (by kernel_rfl)) rfl; simp [Act.eval] at e41
          have hq := hle.cell hcb_4
          go_simp; exact hK _ _ (Ext.refl _) rfl
        · -- 43 := Op.move t7
          have e7 := hf 7 rfl; simp [Act.eval] at e7
          go_simp; exact hK _ _ (Ext.refl _) rfl
        · -- 44 := Op.indexAddr 161 t43 (const (5:i64))
          have e43 := hs 3 43 (needs_direct (by kernel_rfl)) rfl; simp [Act.eval] at e43
          go_simp
          exact hK _ _ (Ext.refl _) rfl
        · -- 45 := Op.load 155 t44
          have e44 := hs 4 44 (needs_direct (by kernel_rfl)) rfl; simp [Act.eval] at e44
          have hq := hle.cell hcb_5
          go_simp; exact hK _ _ (Ext.refl _) rfl
        · -- 46 := Op.binOp BinOp.and 155 t42 t45 155
          have e42 := hs 2 42 (needs_direct (by kernel_rfl)) rfl; have e45 := hs 5 45 (needs_direct (by kernel_rfl)) rfl; simp [Act.eval] at e42 e45
          go_simp
          exact hK _ _ (Ext.refl _) (congrArg (Value.int .u32) (by rw [Hy46.out]; exact w_and s.e s.f))
        · -- 47 := Op.move t7
          have e7 := hf 7 rfl; simp [Act.eval] at e7
          go_simp; exact hK _ _ (Ext.refl _) rfl
        · -- 48 := Op.indexAddr 161 t47 (const (4:i64))
          have e47 := hs 7 47 (needs_direct (by kernel_rfl)) rfl; simp [Act.eval] at e47
          go_simp
          exact hK _ _ (Ext.refl _) rfl
        · -- 49 := Op.load 155 t48
          have e48 := hs 8 48 (needs_direct (by kernel_rfl)) rfl; simp [Act.eval] at e48
          have hq := hle.cell hcb_4
          go_simp; exact hK _ _ (Ext.refl _) rfl
        · -- 50 := Op.binOp BinOp.xor 155 t49 (const (4294967295:u32)) 155
          have e49 := hs 9 49 (needs_direct (by kernel_rfl)) rfl; simp [Act.eval] at e49
          go_simp
          exact hK _ _ (Ext.refl _) (congrArg (Value.int .u32) (by rw [Hy50.out]; exact w_xor s.e (4294967295 : UInt32)))
        · -- 51 := Op.move t7
          have e7 := hf 7 rfl; simp [Act.eval] at e7
          go_simp; exact hK _ _ (Ext.refl _) rfl
        · -- 52 := Op.indexAddr 161 t51 (const (6:i64))
          have e51 := hs 11 51 (needs_direct (by kernel_rfl)) rfl; simp [Act.eval] at e51
          go_simp
          exact hK _ _ (Ext.refl _) rfl
        · -- 53 := Op.load 155 t52
          have e52 := hs 12 52 (needs_direct (by kernel_rfl)) rfl; simp [Act.eval] at e52
          have hq := hle.cell hcb_6
          go_simp; exact hK _ _ (Ext.refl _) rfl
        · -- 54 := Op.binOp BinOp.and 155 t50 t53 155
          have e50 := hs 10 50 (needs_direct (by kernel_rfl)) rfl; have e53 := hs 13 53 (needs_direct (by kernel_rfl)) rfl; simp [Act.eval] at e50 e53
          go_simp
          exact hK _ _ (Ext.refl _) (congrArg (Value.int .u32) (by rw [Hy54.out]; exact w_and y50 s.g))
        · -- 55 := Op.binOp BinOp.or 155 t46 t54 155
          have e46 := hs 6 46 (needs_direct (by kernel_rfl)) rfl; have e54 := hs 14 54 (needs_direct (by kernel_rfl)) rfl; simp [Act.eval] at e46 e54
          go_simp
          exact hK _ _ (Ext.refl _) (congrArg (Value.int .u32) (by rw [Hy55.out]; exact w_or y46 y54))
        · -- 10 := Op.assign t55
          have e55 := hs 15 55 (needs_direct (by kernel_rfl)) rfl; simp [Act.eval] at e55
          go_simp; exact hK _ _ (Ext.refl _) rfl
      intro vs wb hle8 hs
      have v16 := hs 16 (by omega) rfl
      simp only at v16
      clear hs
      have HR2 := hide (HR1.out.below hle8)
      have HRP2 := hide (HRP2.out.below hle8)
      have HRW2 := hide (HRW2.out.below hle8)
      have HE2 := hide (HE2.out.trans hle8)
      clear hle8 hib_4 hcb_4 hib_5 hcb_5 hib_6 hcb_6
      simp only [putN, dstAt]
      go_simp
      go_wp2_with fail
      obtain ⟨pd_7, od_7, hid_7, hcd_7, -⟩ := row_wordI 7 HR2.out (rfl : s.list[7]? = some s.h) rfl
      obtain ⟨y60, hy60⟩ : ∃ y, y = s.h + y39 := ⟨_, rfl⟩
      obtain ⟨y62, hy62⟩ : ∃ y, y = y60 + y55 := ⟨_, rfl⟩
      obtain ⟨pp_k, op_k, hip_k, hcp_k, -⟩ := row_word HRP2.out HPK.out
      obtain ⟨y67, hy67⟩ : ∃ y, y = y62 + pk := ⟨_, rfl⟩
      obtain ⟨pq_k, oq_k, hiq_k, hcq_k, -⟩ := row_word HRW2.out HWK.out
      obtain ⟨y72, hy72⟩ : ∃ y, y = y67 + wk := ⟨_, rfl⟩
      have Hy60 := hide hy60
      have Hy62 := hide hy62
      have Hy67 := hide hy67
      have Hy72 := hide hy72
      clear hy60 hy62 hy67 hy72
      refine wp_region_ext mixed 18 (fun i v w' => match i with
        | 0 => v = .slice A 8 c
        | 1 => v = .pointer (some ⟨pd_7, od_7, none⟩)
        | 2 => v = wv (s.h)
        | 3 => v = wv (y39)
        | 4 => v = wv (y60)
        | 5 => v = wv (y55)
        | 6 => v = wv (y62)
        | 7 => v = .slice AP 64 cp
        | 8 => v = .int .i64 ((k : Nat) : Int)
        | 9 => v = .pointer (some ⟨pp_k, op_k, none⟩)
        | 10 => v = wv (pk)
        | 11 => v = wv (y67)
        | 12 => v = .slice AW 64 cw
        | 13 => v = .int .i64 ((k : Nat) : Int)
        | 14 => v = .pointer (some ⟨pq_k, oq_k, none⟩)
        | 15 => v = wv (wk)
        | 16 => v = wv (y72)
        | _ => v = wv (y72)
        ) (regOk_of (by kernel_rfl)) rfl ?_ ?_ ?_
      · intro i v w1 w2 h1 h2
        split at h2 <;> exact h2
      · refine ⟨fun a w2 hle hd hf hs K hK => ?_, fun a w2 hle hd hf hs K hK => ?_, fun a w2 hle hd hf hs K hK => ?_, fun a w2 hle hd hf hs K hK => ?_, fun a w2 hle hd hf hs K hK => ?_, fun a w2 hle hd hf hs K hK => ?_, fun a w2 hle hd hf hs K hK => ?_, fun a w2 hle hd hf hs K hK => ?_, fun a w2 hle hd hf hs K hK => ?_, fun a w2 hle hd hf hs K hK => ?_, fun a w2 hle hd hf hs K hK => ?_, fun a w2 hle hd hf hs K hK => ?_, fun a w2 hle hd hf hs K hK => ?_, fun a w2 hle hd hf hs K hK => ?_, fun a w2 hle hd hf hs K hK => ?_, fun a w2 hle hd hf hs K hK => ?_, fun a w2 hle hd hf hs K hK => ?_, fun a w2 hle hd hf hs K hK => ?_, trivial⟩
        all_goals clear hd
        · -- 56 := Op.move t7
          have e7 := hf 7 rfl; simp [Act.eval] at e7
          go_simp; exact hK _ _ (Ext.refl _) rfl
        · -- 57 := Op.indexAddr 161 t56 (const (7:i64))
          have e56 := hs 0 56 (needs_direct (by kernel_rfl)) rfl; simp [Act.eval] at e56
          go_simp
          exact hK _ _ (Ext.refl _) rfl
        · -- 58 := Op.load 155 t57
          have e57 := hs 1 57 (needs_direct (by kernel_rfl)) rfl; simp [Act.eval] at e57
          have hq := hle.cell hcd_7
          go_simp; exact hK _ _ (Ext.refl _) rfl
        · -- 59 := Op.move t9
          have e9 := hf 9 rfl; simp [Act.eval] at e9
          go_simp; exact hK _ _ (Ext.refl _) rfl
        · -- 60 := Op.binOp BinOp.add 155 t58 t59 155
          have e58 := hs 2 58 (needs_direct (by kernel_rfl)) rfl; have e59 := hs 3 59 (needs_direct (by kernel_rfl)) rfl; simp [Act.eval] at e58 e59
          go_simp
          exact hK _ _ (Ext.refl _) (congrArg (Value.int .u32) (by rw [Hy60.out]; first | exact w_add _ _ | exact w_addW _ _))
        · -- 61 := Op.move t10
          have e10 := hf 10 rfl; simp [Act.eval] at e10
          go_simp; exact hK _ _ (Ext.refl _) rfl
        · -- 62 := Op.binOp BinOp.add 155 t60 t61 155
          have e60 := hs 4 60 (needs_direct (by kernel_rfl)) rfl; have e61 := hs 5 61 (needs_direct (by kernel_rfl)) rfl; simp [Act.eval] at e60 e61
          go_simp
          exact hK _ _ (Ext.refl _) (congrArg (Value.int .u32) (by rw [Hy62.out]; first | exact w_add _ _ | exact w_addW _ _))
        · -- 63 := Op.move t6
          have e6 := hf 6 rfl; simp [Act.eval] at e6
          go_simp; exact hK _ _ (Ext.refl _) rfl
        · -- 64 := Op.move t8
          have e8 := hf 8 rfl; simp [Act.eval] at e8
          go_simp; exact hK _ _ (Ext.refl _) rfl
        · -- 65 := Op.indexAddr 161 t63 t64
          have e63 := hs 7 63 (needs_direct (by kernel_rfl)) rfl; have e64 := hs 8 64 (needs_direct (by kernel_rfl)) rfl; simp [Act.eval] at e63 e64
          go_simp
          exact hK _ _ (Ext.refl _) rfl
        · -- 66 := Op.load 155 t65
          have e65 := hs 9 65 (needs_direct (by kernel_rfl)) rfl; simp [Act.eval] at e65
          have hq := hle.cell hcp_k
          go_simp; exact hK _ _ (Ext.refl _) rfl
        · -- 67 := Op.binOp BinOp.add 155 t62 t66 155
          have e62 := hs 6 62 (needs_direct (by kernel_rfl)) rfl; have e66 := hs 10 66 (needs_direct (by kernel_rfl)) rfl; simp [Act.eval] at e62 e66
          go_simp
          exact hK _ _ (Ext.refl _) (congrArg (Value.int .u32) (by rw [Hy67.out]; first | exact w_add _ _ | exact w_addW _ _))
        · -- 68 := Op.move t5
          have e5 := hf 5 rfl; simp [Act.eval] at e5
          go_simp; exact hK _ _ (Ext.refl _) rfl
        · -- 69 := Op.move t8
          have e8 := hf 8 rfl; simp [Act.eval] at e8
          go_simp; exact hK _ _ (Ext.refl _) rfl
        · -- 70 := Op.indexAddr 161 t68 t69
          have e68 := hs 12 68 (needs_direct (by kernel_rfl)) rfl; have e69 := hs 13 69 (needs_direct (by kernel_rfl)) rfl; simp [Act.eval] at e68 e69
          go_simp
          exact hK _ _ (Ext.refl _) rfl
        · -- 71 := Op.load 155 t70
          have e70 := hs 14 70 (needs_direct (by kernel_rfl)) rfl; simp [Act.eval] at e70
          have hq := hle.cell hcq_k
          go_simp; exact hK _ _ (Ext.refl _) rfl
        · -- 72 := Op.binOp BinOp.add 155 t67 t71 155
          have e67 := hs 11 67 (needs_direct (by kernel_rfl)) rfl; have e71 := hs 15 71 (needs_direct (by kernel_rfl)) rfl; simp [Act.eval] at e67 e71
          go_simp
          exact hK _ _ (Ext.refl _) (congrArg (Value.int .u32) (by rw [Hy72.out]; first | exact w_add _ _ | exact w_addW _ _))
        · -- 11 := Op.assign t72
          have e72 := hs 16 72 (needs_direct (by kernel_rfl)) rfl; simp [Act.eval] at e72
          go_simp; exact hK _ _ (Ext.refl _) rfl
      intro vs wc hle8 hs
      have v17 := hs 17 (by omega) rfl
      simp only at v17
      clear hs
      have HR3 := hide (HR2.out.below hle8)
      have HRP2 := hide (HRP2.out.below hle8)
      have HRW2 := hide (HRW2.out.below hle8)
      have HE2 := hide (HE2.out.trans hle8)
      clear hle8 hid_7 hcd_7 hip_k hcp_k hiq_k hcq_k
      simp only [putN, dstAt]
      go_simp
      go_wp2_with fail
      obtain ⟨pe_0, oe_0, hie_0, hce_0, -⟩ := row_wordI 0 HR3.out (rfl : s.list[0]? = some s.a) rfl
      obtain ⟨y81, hy81⟩ : ∃ y, y = rotr s.a 2 ^^^ rotr s.a 13 := ⟨_, rfl⟩
      obtain ⟨y86, hy86⟩ : ∃ y, y = y81 ^^^ rotr s.a 22 := ⟨_, rfl⟩
      have Hy81 := hide hy81
      have Hy86 := hide hy86
      clear hy81 hy86
      refine wp_region_ext mixed 15 (fun i v w' => match i with
        | 0 => v = .slice A 8 c
        | 1 => v = .pointer (some ⟨pe_0, oe_0, none⟩)
        | 2 => v = wv (s.a)
        | 3 => v = wv (rotr s.a 2)
        | 4 => v = .slice A 8 c
        | 5 => v = .pointer (some ⟨pe_0, oe_0, none⟩)
        | 6 => v = wv (s.a)
        | 7 => v = wv (rotr s.a 13)
        | 8 => v = wv (y81)
        | 9 => v = .slice A 8 c
        | 10 => v = .pointer (some ⟨pe_0, oe_0, none⟩)
        | 11 => v = wv (s.a)
        | 12 => v = wv (rotr s.a 22)
        | 13 => v = wv (y86)
        | _ => v = wv (y86)
        ) (regOk_of (by kernel_rfl)) rfl ?_ ?_ ?_
      · intro i v w1 w2 h1 h2
        split at h2 <;> exact h2
      · refine ⟨fun a w2 hle hd hf hs K hK => ?_, fun a w2 hle hd hf hs K hK => ?_, fun a w2 hle hd hf hs K hK => ?_, fun a w2 hle hd hf hs K hK => ?_, fun a w2 hle hd hf hs K hK => ?_, fun a w2 hle hd hf hs K hK => ?_, fun a w2 hle hd hf hs K hK => ?_, fun a w2 hle hd hf hs K hK => ?_, fun a w2 hle hd hf hs K hK => ?_, fun a w2 hle hd hf hs K hK => ?_, fun a w2 hle hd hf hs K hK => ?_, fun a w2 hle hd hf hs K hK => ?_, fun a w2 hle hd hf hs K hK => ?_, fun a w2 hle hd hf hs K hK => ?_, fun a w2 hle hd hf hs K hK => ?_, trivial⟩
        all_goals clear hd
        · -- 73 := Op.move t7
          have e7 := hf 7 rfl; simp [Act.eval] at e7
          go_simp; exact hK _ _ (Ext.refl _) rfl
        · -- 74 := Op.indexAddr 161 t73 (const (0:i64))
          have e73 := hs 0 73 (needs_direct (by kernel_rfl)) rfl; simp [Act.eval] at e73
          go_simp
          exact hK _ _ (Ext.refl _) rfl
        · -- 75 := Op.load 155 t74
          have e74 := hs 1 74 (needs_direct (by kernel_rfl)) rfl; simp [Act.eval] at e74
          have hq := hle.cell hce_0
          go_simp; exact hK _ _ (Ext.refl _) rfl
        · -- 76 := Op.call { value (Operand.func 126), args := #[t75, const (2:u64)], argTypes := #[155, 165] }
          have e75 := hs 2 75 (needs_direct (by kernel_rfl)) rfl; simp [Act.eval] at e75
          go_simp
          refine (c_rturn s.a 2 w2 (by decide) (by decide)).mono ?_
          rintro e w9 ⟨rfl, rfl⟩
          exact hK _ _ (Ext.refl _) rfl
        · -- 77 := Op.move t7
          have e7 := hf 7 rfl; simp [Act.eval] at e7
          go_simp; exact hK _ _ (Ext.refl _) rfl
        · -- 78 := Op.indexAddr 161 t77 (const (0:i64))
          have e77 := hs 4 77 (needs_direct (by kernel_rfl)) rfl; simp [Act.eval] at e77
          go_simp
          exact hK _ _ (Ext.refl _) rfl
        · -- 79 := Op.load 155 t78
          have e78 := hs 5 78 (needs_direct (by kernel_rfl)) rfl; simp [Act.eval] at e78
          have hq := hle.cell hce_0
          go_simp; exact hK _ _ (Ext.refl _) rfl
        · -- 80 := Op.call { value (Operand.func 126), args := #[t79, const (13:u64)], argTypes := #[155, 165] }
          have e79 := hs 6 79 (needs_direct (by kernel_rfl)) rfl; simp [Act.eval] at e79
          go_simp
          refine (c_rturn s.a 13 w2 (by decide) (by decide)).mono ?_
          rintro e w9 ⟨rfl, rfl⟩
          exact hK _ _ (Ext.refl _) rfl
        · -- 81 := Op.binOp BinOp.xor 155 t76 t80 155
          have e76 := hs 3 76 (needs_direct (by kernel_rfl)) rfl; have e80 := hs 7 80 (needs_direct (by kernel_rfl)) rfl; simp [Act.eval] at e76 e80
          go_simp
          exact hK _ _ (Ext.refl _) (congrArg (Value.int .u32) (by rw [Hy81.out]; exact w_xor (rotr s.a 2) (rotr s.a 13)))
        · -- 82 := Op.move t7
          have e7 := hf 7 rfl; simp [Act.eval] at e7
          go_simp; exact hK _ _ (Ext.refl _) rfl
        · -- 83 := Op.indexAddr 161 t82 (const (0:i64))
          have e82 := hs 9 82 (needs_direct (by kernel_rfl)) rfl; simp [Act.eval] at e82
          go_simp
          exact hK _ _ (Ext.refl _) rfl
        · -- 84 := Op.load 155 t83
          have e83 := hs 10 83 (needs_direct (by kernel_rfl)) rfl; simp [Act.eval] at e83
          have hq := hle.cell hce_0
          go_simp; exact hK _ _ (Ext.refl _) rfl
        · -- 85 := Op.call { value (Operand.func 126), args := #[t84, const (22:u64)], argTypes := #[155, 165] }
          have e84 := hs 11 84 (needs_direct (by kernel_rfl)) rfl; simp [Act.eval] at e84
          go_simp
          refine (c_rturn s.a 22 w2 (by decide) (by decide)).mono ?_
          rintro e w9 ⟨rfl, rfl⟩
          exact hK _ _ (Ext.refl _) rfl
        · -- 86 := Op.binOp BinOp.xor 155 t81 t85 155
          have e81 := hs 8 81 (needs_direct (by kernel_rfl)) rfl; have e85 := hs 12 85 (needs_direct (by kernel_rfl)) rfl; simp [Act.eval] at e81 e85
          go_simp
          exact hK _ _ (Ext.refl _) (congrArg (Value.int .u32) (by rw [Hy86.out]; exact w_xor y81 (rotr s.a 22)))
        · -- 12 := Op.assign t86
          have e86 := hs 13 86 (needs_direct (by kernel_rfl)) rfl; simp [Act.eval] at e86
          go_simp; exact hK _ _ (Ext.refl _) rfl
      intro vs wd hle8 hs
      have v14 := hs 14 (by omega) rfl
      simp only at v14
      clear hs
      have HR4 := hide (HR3.out.below hle8)
      have HRP2 := hide (HRP2.out.below hle8)
      have HRW2 := hide (HRW2.out.below hle8)
      have HE2 := hide (HE2.out.trans hle8)
      clear hle8 hie_0 hce_0
      simp only [putN, dstAt]
      go_simp
      go_wp2_with fail
      obtain ⟨pf_0, of_0, hif_0, hcf_0, -⟩ := row_wordI 0 HR4.out (rfl : s.list[0]? = some s.a) rfl
      obtain ⟨pf_1, of_1, hif_1, hcf_1, -⟩ := row_wordI 1 HR4.out (rfl : s.list[1]? = some s.b) rfl
      obtain ⟨y93, hy93⟩ : ∃ y, y = s.a &&& s.b := ⟨_, rfl⟩
      obtain ⟨pf_2, of_2, hif_2, hcf_2, -⟩ := row_wordI 2 HR4.out (rfl : s.list[2]? = some s.c) rfl
      obtain ⟨y100, hy100⟩ : ∃ y, y = s.a &&& s.c := ⟨_, rfl⟩
      obtain ⟨y101, hy101⟩ : ∃ y, y = y93 ||| y100 := ⟨_, rfl⟩
      obtain ⟨y108, hy108⟩ : ∃ y, y = s.b &&& s.c := ⟨_, rfl⟩
      obtain ⟨y109, hy109⟩ : ∃ y, y = y101 ||| y108 := ⟨_, rfl⟩
      have Hy93 := hide hy93
      have Hy100 := hide hy100
      have Hy101 := hide hy101
      have Hy108 := hide hy108
      have Hy109 := hide hy109
      clear hy93 hy100 hy101 hy108 hy109
      refine wp_region_ext mixed 24 (fun i v w' => match i with
        | 0 => v = .slice A 8 c
        | 1 => v = .pointer (some ⟨pf_0, of_0, none⟩)
        | 2 => v = wv (s.a)
        | 3 => v = .slice A 8 c
        | 4 => v = .pointer (some ⟨pf_1, of_1, none⟩)
        | 5 => v = wv (s.b)
        | 6 => v = wv (y93)
        | 7 => v = .slice A 8 c
        | 8 => v = .pointer (some ⟨pf_0, of_0, none⟩)
        | 9 => v = wv (s.a)
        | 10 => v = .slice A 8 c
        | 11 => v = .pointer (some ⟨pf_2, of_2, none⟩)
        | 12 => v = wv (s.c)
        | 13 => v = wv (y100)
        | 14 => v = wv (y101)
        | 15 => v = .slice A 8 c
        | 16 => v = .pointer (some ⟨pf_1, of_1, none⟩)
        | 17 => v = wv (s.b)
        | 18 => v = .slice A 8 c
        | 19 => v = .pointer (some ⟨pf_2, of_2, none⟩)
        | 20 => v = wv (s.c)
        | 21 => v = wv (y108)
        | 22 => v = wv (y109)
        | _ => v = wv (y109)
        ) (regOk_of (by kernel_rfl)) rfl ?_ ?_ ?_
      · intro i v w1 w2 h1 h2
        split at h2 <;> exact h2
      · refine ⟨fun a w2 hle hd hf hs K hK => ?_, fun a w2 hle hd hf hs K hK => ?_, fun a w2 hle hd hf hs K hK => ?_, fun a w2 hle hd hf hs K hK => ?_, fun a w2 hle hd hf hs K hK => ?_, fun a w2 hle hd hf hs K hK => ?_, fun a w2 hle hd hf hs K hK => ?_, fun a w2 hle hd hf hs K hK => ?_, fun a w2 hle hd hf hs K hK => ?_, fun a w2 hle hd hf hs K hK => ?_, fun a w2 hle hd hf hs K hK => ?_, fun a w2 hle hd hf hs K hK => ?_, fun a w2 hle hd hf hs K hK => ?_, fun a w2 hle hd hf hs K hK => ?_, fun a w2 hle hd hf hs K hK => ?_, fun a w2 hle hd hf hs K hK => ?_, fun a w2 hle hd hf hs K hK => ?_, fun a w2 hle hd hf hs K hK => ?_, fun a w2 hle hd hf hs K hK => ?_, fun a w2 hle hd hf hs K hK => ?_, fun a w2 hle hd hf hs K hK => ?_, fun a w2 hle hd hf hs K hK => ?_, fun a w2 hle hd hf hs K hK => ?_, fun a w2 hle hd hf hs K hK => ?_, trivial⟩
        all_goals clear hd
        · -- 87 := Op.move t7
          have e7 := hf 7 rfl; simp [Act.eval] at e7
          go_simp; exact hK _ _ (Ext.refl _) rfl
        · -- 88 := Op.indexAddr 161 t87 (const (0:i64))
          have e87 := hs 0 87 (needs_direct (by kernel_rfl)) rfl; simp [Act.eval] at e87
          go_simp
          exact hK _ _ (Ext.refl _) rfl
        · -- 89 := Op.load 155 t88
          have e88 := hs 1 88 (needs_direct (by kernel_rfl)) rfl; simp [Act.eval] at e88
          have hq := hle.cell hcf_0
          go_simp; exact hK _ _ (Ext.refl _) rfl
        · -- 90 := Op.move t7
          have e7 := hf 7 rfl; simp [Act.eval] at e7
          go_simp; exact hK _ _ (Ext.refl _) rfl
        · -- 91 := Op.indexAddr 161 t90 (const (1:i64))
          have e90 := hs 3 90 (needs_direct (by kernel_rfl)) rfl; simp [Act.eval] at e90
          go_simp
          exact hK _ _ (Ext.refl _) rfl
        · -- 92 := Op.load 155 t91
          have e91 := hs 4 91 (needs_direct (by kernel_rfl)) rfl; simp [Act.eval] at e91
          have hq := hle.cell hcf_1
          go_simp; exact hK _ _ (Ext.refl _) rfl
        · -- 93 := Op.binOp BinOp.and 155 t89 t92 155
          have e89 := hs 2 89 (needs_direct (by kernel_rfl)) rfl; have e92 := hs 5 92 (needs_direct (by kernel_rfl)) rfl; simp [Act.eval] at e89 e92
          go_simp
          exact hK _ _ (Ext.refl _) (congrArg (Value.int .u32) (by rw [Hy93.out]; exact w_and s.a s.b))
        · -- 94 := Op.move t7
          have e7 := hf 7 rfl; simp [Act.eval] at e7
          go_simp; exact hK _ _ (Ext.refl _) rfl
        · -- 95 := Op.indexAddr 161 t94 (const (0:i64))
          have e94 := hs 7 94 (needs_direct (by kernel_rfl)) rfl; simp [Act.eval] at e94
          go_simp
          exact hK _ _ (Ext.refl _) rfl
        · -- 96 := Op.load 155 t95
          have e95 := hs 8 95 (needs_direct (by kernel_rfl)) rfl; simp [Act.eval] at e95
          have hq := hle.cell hcf_0
          go_simp; exact hK _ _ (Ext.refl _) rfl
        · -- 97 := Op.move t7
          have e7 := hf 7 rfl; simp [Act.eval] at e7
          go_simp; exact hK _ _ (Ext.refl _) rfl
        · -- 98 := Op.indexAddr 161 t97 (const (2:i64))
          have e97 := hs 10 97 (needs_direct (by kernel_rfl)) rfl; simp [Act.eval] at e97
          go_simp
          exact hK _ _ (Ext.refl _) rfl
        · -- 99 := Op.load 155 t98
          have e98 := hs 11 98 (needs_direct (by kernel_rfl)) rfl; simp [Act.eval] at e98
          have hq := hle.cell hcf_2
          go_simp; exact hK _ _ (Ext.refl _) rfl
        · -- 100 := Op.binOp BinOp.and 155 t96 t99 155
          have e96 := hs 9 96 (needs_direct (by kernel_rfl)) rfl; have e99 := hs 12 99 (needs_direct (by kernel_rfl)) rfl; simp [Act.eval] at e96 e99
          go_simp
          exact hK _ _ (Ext.refl _) (congrArg (Value.int .u32) (by rw [Hy100.out]; exact w_and s.a s.c))
        · -- 101 := Op.binOp BinOp.or 155 t93 t100 155
          have e93 := hs 6 93 (needs_direct (by kernel_rfl)) rfl; have e100 := hs 13 100 (needs_direct (by kernel_rfl)) rfl; simp [Act.eval] at e93 e100
          go_simp
          exact hK _ _ (Ext.refl _) (congrArg (Value.int .u32) (by rw [Hy101.out]; exact w_or y93 y100))
        · -- 102 := Op.move t7
          have e7 := hf 7 rfl; simp [Act.eval] at e7
          go_simp; exact hK _ _ (Ext.refl _) rfl
        · -- 103 := Op.indexAddr 161 t102 (const (1:i64))
          have e102 := hs 15 102 (needs_direct (by kernel_rfl)) rfl; simp [Act.eval] at e102
          go_simp
          exact hK _ _ (Ext.refl _) rfl
        · -- 104 := Op.load 155 t103
          have e103 := hs 16 103 (needs_direct (by kernel_rfl)) rfl; simp [Act.eval] at e103
          have hq := hle.cell hcf_1
          go_simp; exact hK _ _ (Ext.refl _) rfl
        · -- 105 := Op.move t7
          have e7 := hf 7 rfl; simp [Act.eval] at e7
          go_simp; exact hK _ _ (Ext.refl _) rfl
        · -- 106 := Op.indexAddr 161 t105 (const (2:i64))
          have e105 := hs 18 105 (needs_direct (by kernel_rfl)) rfl; simp [Act.eval] at e105
          go_simp
          exact hK _ _ (Ext.refl _) rfl
        · -- 107 := Op.load 155 t106
          have e106 := hs 19 106 (needs_direct (by kernel_rfl)) rfl; simp [Act.eval] at e106
          have hq := hle.cell hcf_2
          go_simp; exact hK _ _ (Ext.refl _) rfl
        · -- 108 := Op.binOp BinOp.and 155 t104 t107 155
          have e104 := hs 17 104 (needs_direct (by kernel_rfl)) rfl; have e107 := hs 20 107 (needs_direct (by kernel_rfl)) rfl; simp [Act.eval] at e104 e107
          go_simp
          exact hK _ _ (Ext.refl _) (congrArg (Value.int .u32) (by rw [Hy108.out]; exact w_and s.b s.c))
        · -- 109 := Op.binOp BinOp.or 155 t101 t108 155
          have e101 := hs 14 101 (needs_direct (by kernel_rfl)) rfl; have e108 := hs 21 108 (needs_direct (by kernel_rfl)) rfl; simp [Act.eval] at e101 e108
          go_simp
          exact hK _ _ (Ext.refl _) (congrArg (Value.int .u32) (by rw [Hy109.out]; exact w_or y101 y108))
        · -- 13 := Op.assign t109
          have e109 := hs 22 109 (needs_direct (by kernel_rfl)) rfl; simp [Act.eval] at e109
          go_simp; exact hK _ _ (Ext.refl _) rfl
      intro vs we hle8 hs
      have v23 := hs 23 (by omega) rfl
      simp only at v23
      clear hs
      have HR5 := hide (HR4.out.below hle8)
      have HRP2 := hide (HRP2.out.below hle8)
      have HRW2 := hide (HRW2.out.below hle8)
      have HE2 := hide (HE2.out.trans hle8)
      clear hle8 hif_0 hcf_0 hif_1 hcf_1 hif_2 hcf_2
      simp only [putN, dstAt]
      go_simp
      go_wp2_with fail
      obtain ⟨u14, hu14⟩ : ∃ u, u = y86 + y109 := ⟨_, rfl⟩
      rw [w_add y86 y109, ← hu14]
      have HU14 := hide hu14
      have HBASE : Hid (w2.heap.size ≤ we.heap.size) := hide (Nat.le_trans hws HE2.out.size)
      clear hu14
      obtain ⟨y115, hy115⟩ : ∃ y, y = y72 + u14 := ⟨_, rfl⟩
      obtain ⟨pg_0, og_0, hig_0, hcg_0, -⟩ := row_wordI 0 HR5.out (rfl : s.list[0]? = some s.a) rfl
      obtain ⟨pg_1, og_1, hig_1, hcg_1, -⟩ := row_wordI 1 HR5.out (rfl : s.list[1]? = some s.b) rfl
      obtain ⟨pg_2, og_2, hig_2, hcg_2, -⟩ := row_wordI 2 HR5.out (rfl : s.list[2]? = some s.c) rfl
      obtain ⟨pg_3, og_3, hig_3, hcg_3, -⟩ := row_wordI 3 HR5.out (rfl : s.list[3]? = some s.d) rfl
      obtain ⟨y129, hy129⟩ : ∃ y, y = s.d + y72 := ⟨_, rfl⟩
      obtain ⟨pg_4, og_4, hig_4, hcg_4, -⟩ := row_wordI 4 HR5.out (rfl : s.list[4]? = some s.e) rfl
      obtain ⟨pg_5, og_5, hig_5, hcg_5, -⟩ := row_wordI 5 HR5.out (rfl : s.list[5]? = some s.f) rfl
      obtain ⟨pg_6, og_6, hig_6, hcg_6, -⟩ := row_wordI 6 HR5.out (rfl : s.list[6]? = some s.g) rfl
      have Hy115 := hide hy115
      have Hy129 := hide hy129
      clear hy115 hy129
      refine wp_region_ext mixed 27 (fun i v w' => match i with
        | 0 => v = wv (y72)
        | 1 => v = wv (u14)
        | 2 => v = wv (y115)
        | 3 => v = .slice A 8 c
        | 4 => v = .pointer (some ⟨pg_0, og_0, none⟩)
        | 5 => v = wv (s.a)
        | 6 => v = .slice A 8 c
        | 7 => v = .pointer (some ⟨pg_1, og_1, none⟩)
        | 8 => v = wv (s.b)
        | 9 => v = .slice A 8 c
        | 10 => v = .pointer (some ⟨pg_2, og_2, none⟩)
        | 11 => v = wv (s.c)
        | 12 => v = .slice A 8 c
        | 13 => v = .pointer (some ⟨pg_3, og_3, none⟩)
        | 14 => v = wv (s.d)
        | 15 => v = wv (y72)
        | 16 => v = wv (y129)
        | 17 => v = .slice A 8 c
        | 18 => v = .pointer (some ⟨pg_4, og_4, none⟩)
        | 19 => v = wv (s.e)
        | 20 => v = .slice A 8 c
        | 21 => v = .pointer (some ⟨pg_5, og_5, none⟩)
        | 22 => v = wv (s.f)
        | 23 => v = .slice A 8 c
        | 24 => v = .pointer (some ⟨pg_6, og_6, none⟩)
        | 25 => v = wv (s.g)
        | _ => ∃ g, v = .slice (some ⟨g, 0, none⟩) 8 8 ∧ w2.heap.size ≤ g ∧ w'.heap[g]? = some (.cells (s8C ⟨y115, s.a, s.b, s.c, y129, s.e, s.f, s.g⟩) 155)
        ) (regOk_of (by kernel_rfl)) rfl ?_ ?_ ?_
      · intro i v w1 w2 h1 h2
        split at h2 <;> first | exact h2 | (obtain ⟨g, rfl, hg⟩ := h2; exact ⟨g, rfl, h1.heap hg⟩) | (obtain ⟨g, rfl, hgl, hg⟩ := h2; exact ⟨g, rfl, hgl, h1.heap hg⟩)
      · refine ⟨fun a w2 hle hd hf hs K hK => ?_, fun a w2 hle hd hf hs K hK => ?_, fun a w2 hle hd hf hs K hK => ?_, fun a w2 hle hd hf hs K hK => ?_, fun a w2 hle hd hf hs K hK => ?_, fun a w2 hle hd hf hs K hK => ?_, fun a w2 hle hd hf hs K hK => ?_, fun a w2 hle hd hf hs K hK => ?_, fun a w2 hle hd hf hs K hK => ?_, fun a w2 hle hd hf hs K hK => ?_, fun a w2 hle hd hf hs K hK => ?_, fun a w2 hle hd hf hs K hK => ?_, fun a w2 hle hd hf hs K hK => ?_, fun a w2 hle hd hf hs K hK => ?_, fun a w2 hle hd hf hs K hK => ?_, fun a w2 hle hd hf hs K hK => ?_, fun a w2 hle hd hf hs K hK => ?_, fun a w2 hle hd hf hs K hK => ?_, fun a w2 hle hd hf hs K hK => ?_, fun a w2 hle hd hf hs K hK => ?_, fun a w2 hle hd hf hs K hK => ?_, fun a w2 hle hd hf hs K hK => ?_, fun a w2 hle hd hf hs K hK => ?_, fun a w2 hle hd hf hs K hK => ?_, fun a w2 hle hd hf hs K hK => ?_, fun a w2 hle hd hf hs K hK => ?_, fun a w2 hle hd hf hs K hK => ?_, trivial⟩
        all_goals clear hd
        · -- 113 := Op.move t11
          have e11 := hf 11 rfl; simp [Act.eval] at e11
          go_simp; exact hK _ _ (Ext.refl _) rfl
        · -- 114 := Op.move t14
          have e14 := hf 14 rfl; simp [Act.eval] at e14
          go_simp; exact hK _ _ (Ext.refl _) rfl
        · -- 115 := Op.binOp BinOp.add 155 t113 t114 155
          have e113 := hs 0 113 (needs_direct (by kernel_rfl)) rfl; have e114 := hs 1 114 (needs_direct (by kernel_rfl)) rfl; simp [Act.eval] at e113 e114
          go_simp
          exact hK _ _ (Ext.refl _) (congrArg (Value.int .u32) (by rw [Hy115.out]; first | exact w_add _ _ | exact w_addW _ _))
        · -- 116 := Op.move t7
          have e7 := hf 7 rfl; simp [Act.eval] at e7
          go_simp; exact hK _ _ (Ext.refl _) rfl
        · -- 117 := Op.indexAddr 161 t116 (const (0:i64))
          have e116 := hs 3 116 (needs_direct (by kernel_rfl)) rfl; simp [Act.eval] at e116
          go_simp
          exact hK _ _ (Ext.refl _) rfl
        · -- 118 := Op.load 155 t117
          have e117 := hs 4 117 (needs_direct (by kernel_rfl)) rfl; simp [Act.eval] at e117
          have hq := hle.cell hcg_0
          go_simp; exact hK _ _ (Ext.refl _) rfl
        · -- 119 := Op.move t7
          have e7 := hf 7 rfl; simp [Act.eval] at e7
          go_simp; exact hK _ _ (Ext.refl _) rfl
        · -- 120 := Op.indexAddr 161 t119 (const (1:i64))
          have e119 := hs 6 119 (needs_direct (by kernel_rfl)) rfl; simp [Act.eval] at e119
          go_simp
          exact hK _ _ (Ext.refl _) rfl
        · -- 121 := Op.load 155 t120
          have e120 := hs 7 120 (needs_direct (by kernel_rfl)) rfl; simp [Act.eval] at e120
          have hq := hle.cell hcg_1
          go_simp; exact hK _ _ (Ext.refl _) rfl
        · -- 122 := Op.move t7
          have e7 := hf 7 rfl; simp [Act.eval] at e7
          go_simp; exact hK _ _ (Ext.refl _) rfl
        · -- 123 := Op.indexAddr 161 t122 (const (2:i64))
          have e122 := hs 9 122 (needs_direct (by kernel_rfl)) rfl; simp [Act.eval] at e122
          go_simp
          exact hK _ _ (Ext.refl _) rfl
        · -- 124 := Op.load 155 t123
          have e123 := hs 10 123 (needs_direct (by kernel_rfl)) rfl; simp [Act.eval] at e123
          have hq := hle.cell hcg_2
          go_simp; exact hK _ _ (Ext.refl _) rfl
        · -- 125 := Op.move t7
          have e7 := hf 7 rfl; simp [Act.eval] at e7
          go_simp; exact hK _ _ (Ext.refl _) rfl
        · -- 126 := Op.indexAddr 161 t125 (const (3:i64))
          have e125 := hs 12 125 (needs_direct (by kernel_rfl)) rfl; simp [Act.eval] at e125
          go_simp
          exact hK _ _ (Ext.refl _) rfl
        · -- 127 := Op.load 155 t126
          have e126 := hs 13 126 (needs_direct (by kernel_rfl)) rfl; simp [Act.eval] at e126
          have hq := hle.cell hcg_3
          go_simp; exact hK _ _ (Ext.refl _) rfl
        · -- 128 := Op.move t11
          have e11 := hf 11 rfl; simp [Act.eval] at e11
          go_simp; exact hK _ _ (Ext.refl _) rfl
        · -- 129 := Op.binOp BinOp.add 155 t127 t128 155
          have e127 := hs 14 127 (needs_direct (by kernel_rfl)) rfl; have e128 := hs 15 128 (needs_direct (by kernel_rfl)) rfl; simp [Act.eval] at e127 e128
          go_simp
          exact hK _ _ (Ext.refl _) (congrArg (Value.int .u32) (by rw [Hy129.out]; first | exact w_add _ _ | exact w_addW _ _))
        · -- 130 := Op.move t7
          have e7 := hf 7 rfl; simp [Act.eval] at e7
          go_simp; exact hK _ _ (Ext.refl _) rfl
        · -- 131 := Op.indexAddr 161 t130 (const (4:i64))
          have e130 := hs 17 130 (needs_direct (by kernel_rfl)) rfl; simp [Act.eval] at e130
          go_simp
          exact hK _ _ (Ext.refl _) rfl
        · -- 132 := Op.load 155 t131
          have e131 := hs 18 131 (needs_direct (by kernel_rfl)) rfl; simp [Act.eval] at e131
          have hq := hle.cell hcg_4
          go_simp; exact hK _ _ (Ext.refl _) rfl
        · -- 133 := Op.move t7
          have e7 := hf 7 rfl; simp [Act.eval] at e7
          go_simp; exact hK _ _ (Ext.refl _) rfl
        · -- 134 := Op.indexAddr 161 t133 (const (5:i64))
          have e133 := hs 20 133 (needs_direct (by kernel_rfl)) rfl; simp [Act.eval] at e133
          go_simp
          exact hK _ _ (Ext.refl _) rfl
        · -- 135 := Op.load 155 t134
          have e134 := hs 21 134 (needs_direct (by kernel_rfl)) rfl; simp [Act.eval] at e134
          have hq := hle.cell hcg_5
          go_simp; exact hK _ _ (Ext.refl _) rfl
        · -- 136 := Op.move t7
          have e7 := hf 7 rfl; simp [Act.eval] at e7
          go_simp; exact hK _ _ (Ext.refl _) rfl
        · -- 137 := Op.indexAddr 161 t136 (const (6:i64))
          have e136 := hs 23 136 (needs_direct (by kernel_rfl)) rfl; simp [Act.eval] at e136
          go_simp
          exact hK _ _ (Ext.refl _) rfl
        · -- 138 := Op.load 155 t137
          have e137 := hs 24 137 (needs_direct (by kernel_rfl)) rfl; simp [Act.eval] at e137
          have hq := hle.cell hcg_6
          go_simp; exact hK _ _ (Ext.refl _) rfl
        · -- 139 := Op.buildSlice 161 8 #[(0, t115), (1, t118), (2, t121), (3, t124), (4, t129), (5, t132), (6, t135), (7, t138)]
          have e115 := hs 2 115 (needs_direct (by kernel_rfl)) rfl; have e118 := hs 5 118 (needs_direct (by kernel_rfl)) rfl; have e121 := hs 8 121 (needs_direct (by kernel_rfl)) rfl; have e124 := hs 11 124 (needs_direct (by kernel_rfl)) rfl; have e129 := hs 16 129 (needs_direct (by kernel_rfl)) rfl; have e132 := hs 19 132 (needs_direct (by kernel_rfl)) rfl; have e135 := hs 22 135 (needs_direct (by kernel_rfl)) rfl; have e138 := hs 25 138 (needs_direct (by kernel_rfl)) rfl; simp [Act.eval] at e115 e118 e121 e124 e129 e132 e135 e138
          go_simp
          exact hK _ _ (Ext.alloc _ _) ⟨_, rfl, Nat.le_trans HBASE.out hle.size, heap_alloc_new _ _⟩
      intro vs wf hle8 hs
      have v26 := hs 26 (by omega) rfl
      simp only at v26
      clear hs
      obtain ⟨g, v26, hgb, hgf⟩ := v26
      have HGF := hide hgf
      have HEF := hide (HE2.out.trans hle8)
      have hturn : s.turn pk wk = ⟨y115, s.a, s.b, s.c, y129, s.e, s.f, s.g⟩ := by
        rw [S8.turn, Hy115.out, Hy129.out, HU14.out, Hy72.out, Hy67.out, Hy62.out, Hy60.out, Hy86.out, Hy81.out, Hy109.out, Hy108.out, Hy101.out, Hy93.out, Hy100.out, most_or, Hy55.out, Hy46.out, Hy54.out, Hy50.out, choose_or, Hy39.out, Hy34.out]
        rfl
      have HT : Hid (turns h Wd (k + 1) = ⟨y115, s.a, s.b, s.c, y129, s.e, s.f, s.g⟩) := hide (by rw [HST.out, hturn])
      clear hgf hle8 hturn hig_0 hcg_0 hig_1 hcg_1 hig_2 hcg_2 hig_3 hcg_3 hig_4 hcg_4 hig_5 hcg_5 hig_6 hcg_6
      simp only [putN, dstAt]
      go_simp
      go_wp2_with fail
      go_roundw
      case rel =>
        refine ⟨k + 1, by omega, by simp, ?_, ?_, hide (HB.out.trans (HEF.out.mono hwr))⟩
        · rw [HT.out]
          exact hide (own_blk HGF.out rfl hgb rfl (by decide))
        · rw [HT.out]
          exact hide (.inr ⟨g, rfl, hgb, HGF.out⟩)
      case measure => simp [intOf]; omega
    · have HK64 := hide (show k = 64 by omega)
      have hg := HG.out
      rw [← hs] at hg
      rcases hg with h0 | ⟨g, e, hgb, hgf⟩
      · omega
      subst e
      have HFIN : Hid (compress h b = s.add h) := hide (by rw [HCO.out, hs, HK64.out])
      have HGF := hide hgf
      obtain ⟨l, hl⟩ : ∃ l, l = s.list := ⟨_, rfl⟩
      obtain ⟨m, hm⟩ : ∃ m, m = h.list := ⟨_, rfl⟩
      have hll : l.length = 8 := by rw [hl]; rfl
      have hml : m.length = 8 := by rw [hm]; rfl
      have HLS : Hid (s8C s = wlC l) := hide (by rw [hl]; rfl)
      have HLM : Hid (addl l m 8 = (s.add h).list) := hide (by rw [hl, hm]; rfl)
      have HRM : Hid (kW.Row (· < w.heap.size) w A0 8 c0 m) := hide (by rw [hm]; exact HRS.out.bound.more fun k h => h.2)
      have HBW := hide (HB4.out.trans (HB.out.mono hws4))
      have hgw : w.heap.size ≤ g := Nat.le_trans hws2 hgb
      have HSS : Hid (wr.heap[g]? = some (.cells (wlC (addl l m 0)) 155)) := hide (by rw [addl_start, ← HLS.out]; exact HGF.out)
      clear hs hgf hl hm HV HG HGF
      go_wp2_with fail
      go_loopw [142] (fun i wz => ∃ (j : Nat), j ≤ 8 ∧ i = .int .i64 (j : Int) ∧ Hid (wz.heap[g]? = some (.cells (wlC (addl l m j)) 155)) ∧ Hid (Below w.heap.size w wz)) (fun i _ => 8 - (intOf i).toNat)
      case atStart => exact ⟨0, Nat.zero_le _, rfl, HSS, HBW⟩
      case round =>
        clear HSS HBW HB hwr HRW HRP
        obtain ⟨j, hj, rfl, HS, HB⟩ := hrel
        have hwr := HB.out.size
        have hgs := (Array.getElem?_eq_some_iff.1 HS.out).1
        by_cases hlt8 : j < 8
        · obtain ⟨p, hp⟩ : ∃ p, l[j]? = some p := ⟨_, List.getElem?_eq_getElem (by omega)⟩
          obtain ⟨q, hq⟩ : ∃ q, m[j]? = some q := ⟨_, List.getElem?_eq_getElem (by omega)⟩
          have hcp := (cell_of_row wr g j _ _ _ HS.out).trans (wlC_at _ ((addl_at hll hml hlt8).trans hp))
          have hij := idx_own g 8 8 j hlt8
          obtain ⟨pq, oq, hiq, hcq, -⟩ := row_word (HRM.out.belowB HB.out) hq
          have HST := hide (addl_set hll hml hlt8 hp hq)
          obtain ⟨y, hy⟩ : ∃ y, y = p + q := ⟨_, rfl⟩
          have HY := hide hy
          clear hp hq hy
          go_wp2_with fail
          refine wp_region_ext mixed 12 (fun i v w' => match i with
            | 0 => v = .slice (some ⟨g, 0, none⟩) 8 8
            | 1 => v = .int .i64 ((j : Nat) : Int)
            | 2 => v = .slice (some ⟨g, 0, none⟩) 8 8
            | 3 => v = .int .i64 ((j : Nat) : Int)
            | 4 => v = .pointer (some ⟨g, j, none⟩)
            | 5 => v = wv (p)
            | 6 => v = .slice A0 8 c0
            | 7 => v = .int .i64 ((j : Nat) : Int)
            | 8 => v = .pointer (some ⟨pq, oq, none⟩)
            | 9 => v = wv (q)
            | 10 => v = wv (y)
            | _ => v = .pointer (some ⟨g, j, none⟩)
            ) (regOk_of (by kernel_rfl)) rfl ?_ ?_ ?_
          · intro i v w1 w2 h1 h2
            split at h2 <;> exact h2
          · refine ⟨fun a w2 hle hd hf hs K hK => ?_, fun a w2 hle hd hf hs K hK => ?_, fun a w2 hle hd hf hs K hK => ?_, fun a w2 hle hd hf hs K hK => ?_, fun a w2 hle hd hf hs K hK => ?_, fun a w2 hle hd hf hs K hK => ?_, fun a w2 hle hd hf hs K hK => ?_, fun a w2 hle hd hf hs K hK => ?_, fun a w2 hle hd hf hs K hK => ?_, fun a w2 hle hd hf hs K hK => ?_, fun a w2 hle hd hf hs K hK => ?_, fun a w2 hle hd hf hs K hK => ?_, trivial⟩
            all_goals clear hd
            · -- 145 := Op.move t7
              have e7 := hf 7 rfl; simp [Act.eval] at e7
              go_simp; exact hK _ _ (Ext.refl _) rfl
            · -- 146 := Op.move t15
              have e15 := hf 15 rfl; simp [Act.eval] at e15
              go_simp; exact hK _ _ (Ext.refl _) rfl
            · -- 147 := Op.move t7
              have e7 := hf 7 rfl; simp [Act.eval] at e7
              go_simp; exact hK _ _ (Ext.refl _) rfl
            · -- 148 := Op.move t15
              have e15 := hf 15 rfl; simp [Act.eval] at e15
              go_simp; exact hK _ _ (Ext.refl _) rfl
            · -- 149 := Op.indexAddr 161 t147 t148
              have e147 := hs 2 147 (needs_direct (by kernel_rfl)) rfl; have e148 := hs 3 148 (needs_direct (by kernel_rfl)) rfl; simp [Act.eval] at e147 e148
              go_simp; exact hK _ _ (Ext.refl _) rfl
            · -- 150 := Op.load 155 t149
              have e149 := hs 4 149 (needs_direct (by kernel_rfl)) rfl; simp [Act.eval] at e149
              have hq := hle.cell hcp
              go_simp; exact hK _ _ (Ext.refl _) rfl
            · -- 151 := Op.move t0
              have e0 := hf 0 rfl; simp [Act.eval] at e0
              go_simp; exact hK _ _ (Ext.refl _) rfl
            · -- 152 := Op.move t15
              have e15 := hf 15 rfl; simp [Act.eval] at e15
              go_simp; exact hK _ _ (Ext.refl _) rfl
            · -- 153 := Op.indexAddr 161 t151 t152
              have e151 := hs 6 151 (needs_direct (by kernel_rfl)) rfl; have e152 := hs 7 152 (needs_direct (by kernel_rfl)) rfl; simp [Act.eval] at e151 e152
              go_simp; exact hK _ _ (Ext.refl _) rfl
            · -- 154 := Op.load 155 t153
              have e153 := hs 8 153 (needs_direct (by kernel_rfl)) rfl; simp [Act.eval] at e153
              have hq := hle.cell hcq
              go_simp; exact hK _ _ (Ext.refl _) rfl
            · -- 155 := Op.binOp BinOp.add 155 t150 t154 155
              have e150 := hs 5 150 (needs_direct (by kernel_rfl)) rfl; have e154 := hs 9 154 (needs_direct (by kernel_rfl)) rfl; simp [Act.eval] at e150 e154
              go_simp
              exact hK _ _ (Ext.refl _) (congrArg (Value.int .u32) (by rw [HY.out]; first | exact w_add _ _ | exact w_addW _ _))
            · -- 156 := Op.indexAddr 161 t145 t146
              have e145 := hs 0 145 (needs_direct (by kernel_rfl)) rfl; have e146 := hs 1 146 (needs_direct (by kernel_rfl)) rfl; simp [Act.eval] at e145 e146
              go_simp; exact hK _ _ (Ext.refl _) rfl
          intro vs w8 hle hs
          have v10 := hs 10 (by omega) rfl
          have v11 := hs 11 (by omega) rfl
          simp only at v10 v11
          clear hs
          have hS8 := (hle.block _ hgs).trans HS.out
          have HB8 := hide (HB.out.trans (hle.mono hwr))
          have hcz := cell_of_row w8 g j _ _ _ hS8
          have hcs : (w8.cell? ⟨g, j, none⟩).isSome = true := by rw [hcz, wlC_get, List.getElem?_eq_getElem (by rw [addl_len hll hml (by omega)]; exact hlt8)]; rfl
          obtain ⟨v0, hv0⟩ := Option.isSome_iff_exists.1 hcs
          have hfz := frozen_of_row w8 g j _ _ hS8
          have HS8 := hide hS8
          clear hcz hcs hcp hcq hle hS8 hij hiq
          simp only [putN, dstAt]
          go_simp
          go_wp2_with fail
          go_roundw
          case rel =>
            refine ⟨j + 1, by omega, by simp, ?_, hide (bsetCell HB8.out hgw _ _)⟩
            have := heap_setCell_at (i := j) (wv y) HS8.out
            rw [wlC_set, HY.out, HST.out] at this
            rw [HY.out]
            exact hide this
          case measure => simp [intOf]; omega
        · obtain rfl : j = 8 := by omega
          have hS := HS.out
          rw [HLM.out] at hS
          have HOW : Hid (kW.Own (fun _ => True) w.heap.size wr 155 (.slice (some ⟨g, 0, none⟩) 8 8) (s.add h).list) := hide (own_blk hS rfl hgw rfl (by decide))
          clear hS
          go_wp2_with fail
          go_ret
          exact ⟨_, rfl, by rw [HFIN.out]; exact HOW.out, HB.out⟩
end Go.Proofs.YtdkeflhgengblaaDoor
