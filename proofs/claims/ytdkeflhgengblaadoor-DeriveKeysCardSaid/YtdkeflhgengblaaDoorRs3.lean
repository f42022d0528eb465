/- The document's answer of layer 2: a block's words. No condition. -/
import Derived.Test.YtdkeflhgengblaaDoorRs2
namespace Go.Proofs.YtdkeflhgengblaaDoor
open Go.RowKit
theorem w_quo8 (x : UInt32) (z : Int) (hz : z = (x.toNat : Int)) : z / 8 = ((x >>> (3 : UInt32)).toNat : Int) := by rw [hz]; exact w_shr x 3 (by decide)
theorem w_quo1024 (x : UInt32) (z : Int) (hz : z = (x.toNat : Int)) : z / 1024 = ((x >>> (10 : UInt32)).toNat : Int) := by rw [hz]; exact w_shr x 10 (by decide)
theorem w_quo8W (x : UInt32) (z : Int) (hz : z = (x.toNat : Int)) : IntKind.u32.wrap (z / 8) = ((x >>> (3 : UInt32)).toNat : Int) := by
  have h := x.toNat_lt
  rw [← w_quo8 x z hz, IntKind.wrap_u32']; omega
theorem w_quo1024W (x : UInt32) (z : Int) (hz : z = (x.toNat : Int)) : IntKind.u32.wrap (z / 1024) = ((x >>> (10 : UInt32)).toNat : Int) := by
  have h := x.toNat_lt
  rw [← w_quo1024 x z hz, IntKind.wrap_u32']; omega
theorem own_rowW {base : Nat} {w : World} {E : TypeId} {v : Value} {xs : List UInt32} (h : kW.Own (fun _ => True) base w E v xs) : ∃ A c, v = .slice A xs.length c ∧ kW.Row (fun _ => True) w A xs.length c xs := by
  obtain ⟨A, c, rfl, hr⟩ := h.row
  exact ⟨A, c, rfl, hr.more fun _ _ => trivial⟩
theorem words_src (ok : Nat → Prop) (w : World) (x : UInt32) (C : Array Value) (hC : C = #[wv x]) : kW.Src ok (w.alloc (.cells C 155)) (some ⟨w.heap.size, 0, none⟩) 1 [x] := by
  subst hC
  exact Kd.Src.new (d := kW) (x := x) (cs := [wv x]) (⟨rfl, trivial⟩ : kW.K ok w x [wv x]) #[wv x] rfl _ rfl
set_option maxRecDepth 100000 in
set_option maxHeartbeats 1600000 in
theorem c_rsched (b : List UInt8) (B : Option Addr) (nb cb : Nat) (ok : Nat → Prop) (w : World) (hRb : kU8.Row ok w B nb cb b) (hb : b.length = 64) : Calls Tryd.prog 124 #[.slice B nb cb] w fun e w' => ∃ v, e = .returned v ∧ kW.Own (fun _ => True) w.heap.size w' 155 v (schedN b 64) ∧ Below w.heap.size w w' := by
  have HB64 := hide hb
  have HRB := hide hRb
  have hnb : nb = 64 := by have := hRb.1; omega
  subst hnb
  have HO := hide (words_lit w [] #[] rfl 0 rfl (Nat.zero_le _))
  clear hRb hb
  go_enter Tryd.func124, Tryd.ntmps124
  go_wp2_with fail
  go_loopw [3, 4] (fun v i wr => ∃ (k : Nat), k ≤ 16 ∧ i = .int .i64 (k : Int) ∧ Hid (kW.Own (fun _ => True) w.heap.size wr 155 v (schedN b k)) ∧ Hid (Below w.heap.size w wr)) (fun _ i _ => 16 - (intOf i).toNat)
  case atStart => exact ⟨0, Nat.zero_le _, rfl, HO, hide (below1 _ _)⟩
  case round =>
    obtain ⟨k, hk, rfl, HV, HB⟩ := hrel
    obtain ⟨A, c, rfl⟩ := HV.out.form
    have hln : (schedN b k).length = k := schedN_len b k
    obtain ⟨n1, hn1⟩ : ∃ n1, n1 = (schedN b k).length := ⟨_, rfl⟩
    rw [← hn1] at HV hln ⊢
    have HN1 := hide hln
    have hwr := HB.out.size
    clear hn1 hln
    by_cases hlt : k < 16
    · obtain ⟨D, hs1, hD⟩ := HRB.out.from (P := Tryd.prog) Tryd.underlying22 (E := 5) (by kernel_rfl) (k := 4 * k) (by omega) .i64 (4 * (k : Int)) (by omega)
      have HD := hide (hD.below HB.out)
      have HNX : Hid (schedN b (k + 1) = schedN b k ++ [get4 (b.drop (4 * k))]) := hide (by
        rw [schedN, nextW, if_pos (by rw [schedN_len]; exact hlt), schedN_len])
      have HL4 : Hid (4 ≤ (b.drop (4 * k)).length) := hide (by rw [List.length_drop, HB64.out]; omega)
      clear hD
      go_wp2_with fail
      refine (c_rget _ _ _ (b.drop (4 * k)) _ wr HD.out HL4.out).mono ?_
      obtain ⟨x, hx⟩ : ∃ x, x = get4 (b.drop (4 * k)) := ⟨_, rfl⟩
      rw [← hx] at HNX ⊢
      clear hx
      rintro e w3 ⟨rfl, rfl⟩
      go_wp2_with (at_builtin; go_loud (refine wpList_app (d := kW) (ys := [x]) rfl _ _ _ rfl Tryd.underlying161 w_info rfl (by decide) 1 rfl rfl (.inl (HV.out.below (below1 _ _))) (words_src _ _ x _ rfl) ?_ ?_ ?_ ?_))
      · simp; omega
      · have := HN1.out; simp only [maxLen, schedN_len]; omega
      · simp only [schedN_len]; omega
      · intro v2 w2 _ h2 h3 _ _
        rw [← HNX.out] at h2
        have H2 := hide h2
        have H3 := hide (HB.out.trans (((below1 _ _).mono hwr).trans h3))
        clear h2 h3
        go_wp2
        go_roundw
        case rel => exact ⟨k + 1, by omega, by simp, H2, H3⟩
        case measure => simp [intOf]; omega
    · obtain rfl : k = 16 := by omega
      have HN16 : Hid (n1 = 16) := HN1
      go_wp2_with fail
      go_loopw [3, 5] (fun v i wr => ∃ (k : Nat), 16 ≤ k ∧ k ≤ 64 ∧ i = .int .i64 (k : Int) ∧ Hid (kW.Own (fun _ => True) w.heap.size wr 155 v (schedN b k)) ∧ Hid (Below w.heap.size w wr)) (fun _ i _ => 64 - (intOf i).toNat)
      case atStart => exact ⟨16, Nat.le_refl _, by omega, rfl, HV, HB⟩
      case round =>
        clear HV HB hwr HN1 HN16
        obtain ⟨k, hk16, hk, rfl, HV, HB⟩ := hrel
        obtain ⟨A, c, hvf⟩ := HV.out.form
        rw [hvf] at HV ⊢
        clear hvf
        obtain ⟨W, hW⟩ : ∃ W, W = schedN b k := ⟨_, rfl⟩
        have HNX : Hid (schedN b (k + 1) = W ++ [nextW b W]) := hide (by rw [schedN, hW])
        have hWl : W.length = k := by rw [hW, schedN_len]
        rw [← hW] at HV ⊢
        have HWE := hide hW
        clear hW
        obtain ⟨n1, hn1⟩ : ∃ n1, n1 = W.length := ⟨_, rfl⟩
        rw [← hn1] at HV ⊢
        have HN1 : Hid (n1 = k) := hide (by rw [hn1]; exact hWl)
        have HWL := hide hWl
        have HR : Hid (kW.Row (fun _ => True) wr A n1 c W) := hide (by
          obtain ⟨A', c', e, hr⟩ := own_rowW HV.out
          rw [← hn1] at e hr
          simp only [Value.slice.injEq] at e
          rw [e.1, e.2.2]
          exact hr)
        have hwr := HB.out.size
        clear hn1 hWl
        by_cases hlt : k < 64
        · obtain ⟨k2, hk2⟩ : ∃ j, k = j + 2 := ⟨k - 2, by omega⟩
          obtain ⟨k7, hk7⟩ : ∃ j, k = j + 7 := ⟨k - 7, by omega⟩
          obtain ⟨k15, hk15⟩ : ∃ j, k = j + 15 := ⟨k - 15, by omega⟩
          obtain ⟨k16, hk16'⟩ : ∃ j, k = j + 16 := ⟨k - 16, by omega⟩
          obtain ⟨x2, hx2⟩ : ∃ x, W[k2]? = some x := ⟨_, List.getElem?_eq_getElem (by have := HWL.out; omega)⟩
          obtain ⟨x7, hx7⟩ : ∃ x, W[k7]? = some x := ⟨_, List.getElem?_eq_getElem (by have := HWL.out; omega)⟩
          obtain ⟨x15, hx15⟩ : ∃ x, W[k15]? = some x := ⟨_, List.getElem?_eq_getElem (by have := HWL.out; omega)⟩
          obtain ⟨x16, hx16⟩ : ∃ x, W[k16]? = some x := ⟨_, List.getElem?_eq_getElem (by have := HWL.out; omega)⟩
          have HNX2 : Hid (nextW b W = small1 x2 + x7 + small0 x15 + x16) := hide (by
            rw [nextW, if_neg (by rw [HWL.out]; omega), HWL.out, show k - 2 = k2 by omega, show k - 7 = k7 by omega, show k - 15 = k15 by omega, show k - 16 = k16 by omega]
            simp only [List.getD_eq_getElem?_getD, hx2, hx7, hx15, hx16, Option.getD_some])
          have HK2 := hide hk2
          have HK7 := hide hk7
          have HK15 := hide hk15
          have HK16 := hide hk16'
          have HX2 := hide hx2
          have HX7 := hide hx7
          have HX15 := hide hx15
          have HX16 := hide hx16
          clear hk2 hk7 hk15 hk16' hx2 hx7 hx15 hx16
          go_wp2_with fail
          obtain ⟨pL_k2, oL_k2, hiL_k2, hcL_k2, -⟩ := row_word HR.out HX2.out
          obtain ⟨y37, hy37⟩ : ∃ y, y = rotr x2 17 ^^^ rotr x2 19 := ⟨_, rfl⟩
          obtain ⟨y43, hy43⟩ : ∃ y, y = x2 >>> (10 : UInt32) := ⟨_, rfl⟩
          obtain ⟨y44, hy44⟩ : ∃ y, y = y37 ^^^ y43 := ⟨_, rfl⟩
          have Hy37 := hide hy37
          have Hy43 := hide hy43
          have Hy44 := hide hy44
          clear hy37 hy43 hy44
          refine wp_region_ext mixed 21 (fun i v w' => match i with
            | 0 => v = .slice A n1 c
            | 1 => v = .int .i64 ((k : Nat) : Int)
            | 2 => v = .int .i64 ((k2 : Nat) : Int)
            | 3 => v = .pointer (some ⟨pL_k2, oL_k2, none⟩)
            | 4 => v = wv (x2)
            | 5 => v = wv (rotr x2 17)
            | 6 => v = .slice A n1 c
            | 7 => v = .int .i64 ((k : Nat) : Int)
            | 8 => v = .int .i64 ((k2 : Nat) : Int)
            | 9 => v = .pointer (some ⟨pL_k2, oL_k2, none⟩)
            | 10 => v = wv (x2)
            | 11 => v = wv (rotr x2 19)
            | 12 => v = wv (y37)
            | 13 => v = .slice A n1 c
            | 14 => v = .int .i64 ((k : Nat) : Int)
            | 15 => v = .int .i64 ((k2 : Nat) : Int)
            | 16 => v = .pointer (some ⟨pL_k2, oL_k2, none⟩)
            | 17 => v = wv (x2)
            | 18 => v = wv (y43)
            | 19 => v = wv (y44)
            | _ => v = wv (y44)
            ) (regOk_of (by kernel_rfl)) rfl ?_ ?_ ?_
          · intro i v w1 w2 h1 h2
            split at h2 <;> exact h2
          · refine ⟨fun a w2 hle hd hf hs K hK => ?_, fun a w2 hle hd hf hs K hK => ?_, fun a w2 hle hd hf hs K hK => ?_, fun a w2 hle hd hf hs K hK => ?_, fun a w2 hle hd hf hs K hK => ?_, fun a w2 hle hd hf hs K hK => ?_, fun a w2 hle hd hf hs K hK => ?_, fun a w2 hle hd hf hs K hK => ?_, fun a w2 hle hd hf hs K hK => ?_, fun a w2 hle hd hf hs K hK => ?_, fun a w2 hle hd hf hs K hK => ?_, fun a w2 hle hd hf hs K hK => ?_, fun a w2 hle hd hf hs K hK => ?_, fun a w2 hle hd hf hs K hK => ?_, fun a w2 hle hd hf hs K hK => ?_, fun a w2 hle hd hf hs K hK => ?_, fun a w2 hle hd hf hs K hK => ?_, fun a w2 hle hd hf hs K hK => ?_, fun a w2 hle hd hf hs K hK => ?_, fun a w2 hle hd hf hs K hK => ?_, fun a w2 hle hd hf hs K hK => ?_, trivial⟩
            all_goals clear hd
            · -- 25 := Op.move t3
              have e3 := hf 3 rfl; simp [Act.eval] at e3
              go_simp; exact hK _ _ (Ext.refl _) rfl
            · -- 26 := Op.move t5
              have e5 := hf 5 rfl; simp [Act.eval] at e5
              go_simp; exact hK _ _ (Ext.refl _) rfl
            · -- 27 := Op.binOp BinOp.sub 3 t26 (const (2:i64)) 3
              have e26 := hs 1 26 (needs_direct (by kernel_rfl)) rfl; simp [Act.eval] at e26
              go_simp
              exact hK _ _ (Ext.refl _) (congrArg (Value.int .i64) (by have := HK2.out; first | (rw [wrap64s (by omega) (by omega)]; omega) | omega))
            · -- 28 := Op.indexAddr 161 t25 t27
              have e25 := hs 0 25 (needs_direct (by kernel_rfl)) rfl; have e27 := hs 2 27 (needs_direct (by kernel_rfl)) rfl; simp [Act.eval] at e25 e27
              go_simp
              exact hK _ _ (Ext.refl _) rfl
            · -- 29 := Op.load 155 t28
              have e28 := hs 3 28 (needs_direct (by kernel_rfl)) rfl; simp [Act.eval] at e28
              have hq := hle.cell hcL_k2
              go_simp; exact hK _ _ (Ext.refl _) rfl
            · -- 30 := Op.call { value (Operand.func 126), args := #[t29, const (17:u64)], argTypes := #[155, 165] }
              have e29 := hs 4 29 (needs_direct (by kernel_rfl)) rfl; simp [Act.eval] at e29
              go_simp
              refine (c_rturn x2 17 w2 (by decide) (by decide)).mono ?_
              rintro e w9 ⟨rfl, rfl⟩
              exact hK _ _ (Ext.refl _) rfl
            · -- 31 := Op.move t3
              have e3 := hf 3 rfl; simp [Act.eval] at e3
              go_simp; exact hK _ _ (Ext.refl _) rfl
            · -- 32 := Op.move t5
              have e5 := hf 5 rfl; simp [Act.eval] at e5
              go_simp; exact hK _ _ (Ext.refl _) rfl
            · -- 33 := Op.binOp BinOp.sub 3 t32 (const (2:i64)) 3
              have e32 := hs 7 32 (needs_direct (by kernel_rfl)) rfl; simp [Act.eval] at e32
              go_simp
              exact hK _ _ (Ext.refl _) (congrArg (Value.int .i64) (by have := HK2.out; first | (rw [wrap64s (by omega) (by omega)]; omega) | omega))
            · -- 34 := Op.indexAddr 161 t31 t33
              have e31 := hs 6 31 (needs_direct (by kernel_rfl)) rfl; have e33 := hs 8 33 (needs_direct (by kernel_rfl)) rfl; simp [Act.eval] at e31 e33
              go_simp
              exact hK _ _ (Ext.refl _) rfl
            · -- 35 := Op.load 155 t34
              have e34 := hs 9 34 (needs_direct (by kernel_rfl)) rfl; simp [Act.eval] at e34
              have hq := hle.cell hcL_k2
              go_simp; exact hK _ _ (Ext.refl _) rfl
            · -- 36 := Op.call { value (Operand.func 126), args := #[t35, const (19:u64)], argTypes := #[155, 165] }
              have e35 := hs 10 35 (needs_direct (by kernel_rfl)) rfl; simp [Act.eval] at e35
              go_simp
              refine (c_rturn x2 19 w2 (by decide) (by decide)).mono ?_
              rintro e w9 ⟨rfl, rfl⟩
              exact hK _ _ (Ext.refl _) rfl
            · -- 37 := Op.binOp BinOp.xor 155 t30 t36 155
              have e30 := hs 5 30 (needs_direct (by kernel_rfl)) rfl; have e36 := hs 11 36 (needs_direct (by kernel_rfl)) rfl; simp [Act.eval] at e30 e36
              go_simp
              exact hK _ _ (Ext.refl _) (congrArg (Value.int .u32) (by rw [Hy37.out]; exact w_xor _ _))
            · -- 38 := Op.move t3
              have e3 := hf 3 rfl; simp [Act.eval] at e3
              go_simp; exact hK _ _ (Ext.refl _) rfl
            · -- 39 := Op.move t5
              have e5 := hf 5 rfl; simp [Act.eval] at e5
              go_simp; exact hK _ _ (Ext.refl _) rfl
            · -- 40 := Op.binOp BinOp.sub 3 t39 (const (2:i64)) 3
              have e39 := hs 14 39 (needs_direct (by kernel_rfl)) rfl; simp [Act.eval] at e39
              go_simp
              exact hK _ _ (Ext.refl _) (congrArg (Value.int .i64) (by have := HK2.out; first | (rw [wrap64s (by omega) (by omega)]; omega) | omega))
            · -- 41 := Op.indexAddr 161 t38 t40
              have e38 := hs 13 38 (needs_direct (by kernel_rfl)) rfl; have e40 := hs 15 40 (needs_direct (by kernel_rfl)) rfl; simp [Act.eval] at e38 e40
              go_simp
              exact hK _ _ (Ext.refl _) rfl
            · -- 42 := Op.load 155 t41
              have e41 := hs 16 41 (needs_direct (by kernel_rfl)) rfl; simp [Act.eval] at e41
              have hq := hle.cell hcL_k2
              go_simp; exact hK _ _ (Ext.refl _) rfl
            · -- 43 := Op.binOp BinOp.quo 155 t42 (const (1024:u32)) 155
              have e42 := hs 17 42 (needs_direct (by kernel_rfl)) rfl; simp [Act.eval] at e42
              go_simp
              exact hK _ _ (Ext.refl _) (congrArg (Value.int .u32) (by rw [Hy43.out]; first | exact w_quo1024 _ _ rfl | exact w_quo1024W _ _ rfl))
            · -- 44 := Op.binOp BinOp.xor 155 t37 t43 155
              have e37 := hs 12 37 (needs_direct (by kernel_rfl)) rfl; have e43 := hs 18 43 (needs_direct (by kernel_rfl)) rfl; simp [Act.eval] at e37 e43
              go_simp
              exact hK _ _ (Ext.refl _) (congrArg (Value.int .u32) (by rw [Hy44.out]; exact w_xor _ _))
            · -- 6 := Op.assign t44
              have e44 := hs 19 44 (needs_direct (by kernel_rfl)) rfl; simp [Act.eval] at e44
              go_simp; exact hK _ _ (Ext.refl _) rfl
          intro vs w5 hle5 hs
          have v20 := hs 20 (by omega) rfl
          simp only at v20
          clear hs
          have HR5 := hide (HR.out.below hle5)
          have HE5 := hide hle5
          clear hiL_k2 hcL_k2 hle5
          simp only [putN, dstAt]
          go_simp
          go_wp2_with fail
          obtain ⟨pM_k15, oM_k15, hiM_k15, hcM_k15, -⟩ := row_word HR5.out HX15.out
          obtain ⟨z57, hz57⟩ : ∃ y, y = rotr x15 7 ^^^ rotr x15 18 := ⟨_, rfl⟩
          obtain ⟨z63, hz63⟩ : ∃ y, y = x15 >>> (3 : UInt32) := ⟨_, rfl⟩
          obtain ⟨z64, hz64⟩ : ∃ y, y = z57 ^^^ z63 := ⟨_, rfl⟩
          have Hz57 := hide hz57
          have Hz63 := hide hz63
          have Hz64 := hide hz64
          clear hz57 hz63 hz64
          refine wp_region_ext mixed 21 (fun i v w' => match i with
            | 0 => v = .slice A n1 c
            | 1 => v = .int .i64 ((k : Nat) : Int)
            | 2 => v = .int .i64 ((k15 : Nat) : Int)
            | 3 => v = .pointer (some ⟨pM_k15, oM_k15, none⟩)
            | 4 => v = wv (x15)
            | 5 => v = wv (rotr x15 7)
            | 6 => v = .slice A n1 c
            | 7 => v = .int .i64 ((k : Nat) : Int)
            | 8 => v = .int .i64 ((k15 : Nat) : Int)
            | 9 => v = .pointer (some ⟨pM_k15, oM_k15, none⟩)
            | 10 => v = wv (x15)
            | 11 => v = wv (rotr x15 18)
            | 12 => v = wv (z57)
            | 13 => v = .slice A n1 c
            | 14 => v = .int .i64 ((k : Nat) : Int)
            | 15 => v = .int .i64 ((k15 : Nat) : Int)
            | 16 => v = .pointer (some ⟨pM_k15, oM_k15, none⟩)
            | 17 => v = wv (x15)
            | 18 => v = wv (z63)
            | 19 => v = wv (z64)
            | _ => v = wv (z64)
            ) (regOk_of (by kernel_rfl)) rfl ?_ ?_ ?_
          · intro i v w1 w2 h1 h2
            split at h2 <;> exact h2
          · refine ⟨fun a w2 hle hd hf hs K hK => ?_, fun a w2 hle hd hf hs K hK => ?_, fun a w2 hle hd hf hs K hK => ?_, fun a w2 hle hd hf hs K hK => ?_, fun a w2 hle hd hf hs K hK => ?_, fun a w2 hle hd hf hs K hK => ?_, fun a w2 hle hd hf hs K hK => ?_, fun a w2 hle hd hf hs K hK => ?_, fun a w2 hle hd hf hs K hK => ?_, fun a w2 hle hd hf hs K hK => ?_, fun a w2 hle hd hf hs K hK => ?_, fun a w2 hle hd hf hs K hK => ?_, fun a w2 hle hd hf hs K hK => ?_, fun a w2 hle hd hf hs K hK => ?_, fun a w2 hle hd hf hs K hK => ?_, fun a w2 hle hd hf hs K hK => ?_, fun a w2 hle hd hf hs K hK => ?_, fun a w2 hle hd hf hs K hK => ?_, fun a w2 hle hd hf hs K hK => ?_, fun a w2 hle hd hf hs K hK => ?_, fun a w2 hle hd hf hs K hK => ?_, trivial⟩
            all_goals clear hd
            · -- 45 := Op.move t3
              have e3 := hf 3 rfl; simp [Act.eval] at e3
              go_simp; exact hK _ _ (Ext.refl _) rfl
            · -- 46 := Op.move t5
              have e5 := hf 5 rfl; simp [Act.eval] at e5
              go_simp; exact hK _ _ (Ext.refl _) rfl
            · -- 47 := Op.binOp BinOp.sub 3 t46 (const (15:i64)) 3
              have e46 := hs 1 46 (needs_direct (by kernel_rfl)) rfl; simp [Act.eval] at e46
              go_simp
              exact hK _ _ (Ext.refl _) (congrArg (Value.int .i64) (by have := HK15.out; first | (rw [wrap64s (by omega) (by omega)]; omega) | omega))
            · -- 48 := Op.indexAddr 161 t45 t47
              have e45 := hs 0 45 (needs_direct (by kernel_rfl)) rfl; have e47 := hs 2 47 (needs_direct (by kernel_rfl)) rfl; simp [Act.eval] at e45 e47
              go_simp
              exact hK _ _ (Ext.refl _) rfl
            · -- 49 := Op.load 155 t48
              have e48 := hs 3 48 (needs_direct (by kernel_rfl)) rfl; simp [Act.eval] at e48
              have hq := hle.cell hcM_k15
              go_simp; exact hK _ _ (Ext.refl _) rfl
            · -- 50 := Op.call { value (Operand.func 126), args := #[t49, const (7:u64)], argTypes := #[155, 165] }
              have e49 := hs 4 49 (needs_direct (by kernel_rfl)) rfl; simp [Act.eval] at e49
              go_simp
              refine (c_rturn x15 7 w2 (by decide) (by decide)).mono ?_
              rintro e w9 ⟨rfl, rfl⟩
              exact hK _ _ (Ext.refl _) rfl
            · -- 51 := Op.move t3
              have e3 := hf 3 rfl; simp [Act.eval] at e3
              go_simp; exact hK _ _ (Ext.refl _) rfl
            · -- 52 := Op.move t5
              have e5 := hf 5 rfl; simp [Act.eval] at e5
              go_simp; exact hK _ _ (Ext.refl _) rfl
            · -- 53 := Op.binOp BinOp.sub 3 t52 (const (15:i64)) 3
              have e52 := hs 7 52 (needs_direct (by kernel_rfl)) rfl; simp [Act.eval] at e52
              go_simp
              exact hK _ _ (Ext.refl _) (congrArg (Value.int .i64) (by have := HK15.out; first | (rw [wrap64s (by omega) (by omega)]; omega) | omega))
            · -- 54 := Op.indexAddr 161 t51 t53
              have e51 := hs 6 51 (needs_direct (by kernel_rfl)) rfl; have e53 := hs 8 53 (needs_direct (by kernel_rfl)) rfl; simp [Act.eval] at e51 e53
              go_simp
              exact hK _ _ (Ext.refl _) rfl
            · -- 55 := Op.load 155 t54
              have e54 := hs 9 54 (needs_direct (by kernel_rfl)) rfl; simp [Act.eval] at e54
              have hq := hle.cell hcM_k15
              go_simp; exact hK _ _ (Ext.refl _) rfl
            · -- 56 := Op.call { value (Operand.func 126), args := #[t55, const (18:u64)], argTypes := #[155, 165] }
              have e55 := hs 10 55 (needs_direct (by kernel_rfl)) rfl; simp [Act.eval] at e55
              go_simp
              refine (c_rturn x15 18 w2 (by decide) (by decide)).mono ?_
              rintro e w9 ⟨rfl, rfl⟩
              exact hK _ _ (Ext.refl _) rfl
            · -- 57 := Op.binOp BinOp.xor 155 t50 t56 155
              have e50 := hs 5 50 (needs_direct (by kernel_rfl)) rfl; have e56 := hs 11 56 (needs_direct (by kernel_rfl)) rfl; simp [Act.eval] at e50 e56
              go_simp
              exact hK _ _ (Ext.refl _) (congrArg (Value.int .u32) (by rw [Hz57.out]; exact w_xor _ _))
            · -- 58 := Op.move t3
              have e3 := hf 3 rfl; simp [Act.eval] at e3
              go_simp; exact hK _ _ (Ext.refl _) rfl
            · -- 59 := Op.move t5
              have e5 := hf 5 rfl; simp [Act.eval] at e5
              go_simp; exact hK _ _ (Ext.refl _) rfl
            · -- 60 := Op.binOp BinOp.sub 3 t59 (const (15:i64)) 3
              have e59 := hs 14 59 (needs_direct (by kernel_rfl)) rfl; simp [Act.eval] at e59
              go_simp
              exact hK _ _ (Ext.refl _) (congrArg (Value.int .i64) (by have := HK15.out; first | (rw [wrap64s (by omega) (by omega)]; omega) | omega))
            · -- 61 := Op.indexAddr 161 t58 t60
              have e58 := hs 13 58 (needs_direct (by kernel_rfl)) rfl; have e60 := hs 15 60 (needs_direct (by kernel_rfl)) rfl; simp [Act.eval] at e58 e60
              go_simp
              exact hK _ _ (Ext.refl _) rfl
            · -- 62 := Op.load 155 t61
              have e61 := hs 16 61 (needs_direct (by kernel_rfl)) rfl; simp [Act.eval] at e61
              have hq := hle.cell hcM_k15
              go_simp; exact hK _ _ (Ext.refl _) rfl
            · -- 63 := Op.binOp BinOp.quo 155 t62 (const (8:u32)) 155
              have e62 := hs 17 62 (needs_direct (by kernel_rfl)) rfl; simp [Act.eval] at e62
              go_simp
              exact hK _ _ (Ext.refl _) (congrArg (Value.int .u32) (by rw [Hz63.out]; first | exact w_quo8 _ _ rfl | exact w_quo8W _ _ rfl))
            · -- 64 := Op.binOp BinOp.xor 155 t57 t63 155
              have e57 := hs 12 57 (needs_direct (by kernel_rfl)) rfl; have e63 := hs 18 63 (needs_direct (by kernel_rfl)) rfl; simp [Act.eval] at e57 e63
              go_simp
              exact hK _ _ (Ext.refl _) (congrArg (Value.int .u32) (by rw [Hz64.out]; exact w_xor _ _))
            · -- 7 := Op.assign t64
              have e64 := hs 19 64 (needs_direct (by kernel_rfl)) rfl; simp [Act.eval] at e64
              go_simp; exact hK _ _ (Ext.refl _) rfl
          intro vs w8 hle8 hs
          have v20 := hs 20 (by omega) rfl
          simp only at v20
          clear hs
          have HR8 := hide (HR5.out.below hle8)
          have HE8 := hide (HE5.out.trans hle8)
          clear hiM_k15 hcM_k15 hle8
          simp only [putN, dstAt]
          go_simp
          go_wp2_with fail
          obtain ⟨pN_k7, oN_k7, hiN_k7, hcN_k7, -⟩ := row_word HR8.out HX7.out
          obtain ⟨u72, hu72⟩ : ∃ y, y = y44 + x7 := ⟨_, rfl⟩
          obtain ⟨u74, hu74⟩ : ∃ y, y = u72 + z64 := ⟨_, rfl⟩
          obtain ⟨pN_k16, oN_k16, hiN_k16, hcN_k16, -⟩ := row_word HR8.out HX16.out
          obtain ⟨u80, hu80⟩ : ∃ y, y = u74 + x16 := ⟨_, rfl⟩
          have Hu72 := hide hu72
          have Hu74 := hide hu74
          have Hu80 := hide hu80
          clear hu72 hu74 hu80
          refine wp_region_ext mixed 17 (fun i v w' => match i with
            | 0 => v = .slice A n1 c
            | 1 => v = wv (y44)
            | 2 => v = .slice A n1 c
            | 3 => v = .int .i64 ((k : Nat) : Int)
            | 4 => v = .int .i64 ((k7 : Nat) : Int)
            | 5 => v = .pointer (some ⟨pN_k7, oN_k7, none⟩)
            | 6 => v = wv (x7)
            | 7 => v = wv (u72)
            | 8 => v = wv (z64)
            | 9 => v = wv (u74)
            | 10 => v = .slice A n1 c
            | 11 => v = .int .i64 ((k : Nat) : Int)
            | 12 => v = .int .i64 ((k16 : Nat) : Int)
            | 13 => v = .pointer (some ⟨pN_k16, oN_k16, none⟩)
            | 14 => v = wv (x16)
            | 15 => v = wv (u80)
            | _ => ∃ g, v = .slice (some ⟨g, 0, none⟩) 1 1 ∧ w'.heap[g]? = some (.cells #[wv u80] 155)
            ) (regOk_of (by kernel_rfl)) rfl ?_ ?_ ?_
          · intro i v w1 w2 h1 h2
            split at h2 <;> first | exact h2 | (obtain ⟨g, rfl, hg⟩ := h2; exact ⟨g, rfl, h1.heap hg⟩)
          · refine ⟨fun a w2 hle hd hf hs K hK => ?_, fun a w2 hle hd hf hs K hK => ?_, fun a w2 hle hd hf hs K hK => ?_, fun a w2 hle hd hf hs K hK => ?_, fun a w2 hle hd hf hs K hK => ?_, fun a w2 hle hd hf hs K hK => ?_, fun a w2 hle hd hf hs K hK => ?_, fun a w2 hle hd hf hs K hK => ?_, fun a w2 hle hd hf hs K hK => ?_, fun a w2 hle hd hf hs K hK => ?_, fun a w2 hle hd hf hs K hK => ?_, fun a w2 hle hd hf hs K hK => ?_, fun a w2 hle hd hf hs K hK => ?_, fun a w2 hle hd hf hs K hK => ?_, fun a w2 hle hd hf hs K hK => ?_, fun a w2 hle hd hf hs K hK => ?_, fun a w2 hle hd hf hs K hK => ?_, trivial⟩
            all_goals clear hd
            · -- 65 := Op.move t3
              have e3 := hf 3 rfl; simp [Act.eval] at e3
              go_simp; exact hK _ _ (Ext.refl _) rfl
            · -- 66 := Op.move t6
              have e6 := hf 6 rfl; simp [Act.eval] at e6
              go_simp; exact hK _ _ (Ext.refl _) rfl
            · -- 67 := Op.move t3
              have e3 := hf 3 rfl; simp [Act.eval] at e3
              go_simp; exact hK _ _ (Ext.refl _) rfl
            · -- 68 := Op.move t5
              have e5 := hf 5 rfl; simp [Act.eval] at e5
              go_simp; exact hK _ _ (Ext.refl _) rfl
            · -- 69 := Op.binOp BinOp.sub 3 t68 (const (7:i64)) 3
              have e68 := hs 3 68 (needs_direct (by kernel_rfl)) rfl; simp [Act.eval] at e68
              go_simp
              exact hK _ _ (Ext.refl _) (congrArg (Value.int .i64) (by have := HK7.out; first | (rw [wrap64s (by omega) (by omega)]; omega) | omega))
            · -- 70 := Op.indexAddr 161 t67 t69
              have e67 := hs 2 67 (needs_direct (by kernel_rfl)) rfl; have e69 := hs 4 69 (needs_direct (by kernel_rfl)) rfl; simp [Act.eval] at e67 e69
              go_simp
              exact hK _ _ (Ext.refl _) rfl
            · -- 71 := Op.load 155 t70
              have e70 := hs 5 70 (needs_direct (by kernel_rfl)) rfl; simp [Act.eval] at e70
              have hq := hle.cell hcN_k7
              go_simp; exact hK _ _ (Ext.refl _) rfl
            · -- 72 := Op.binOp BinOp.add 155 t66 t71 155
              have e66 := hs 1 66 (needs_direct (by kernel_rfl)) rfl; have e71 := hs 6 71 (needs_direct (by kernel_rfl)) rfl; simp [Act.eval] at e66 e71
              go_simp
              exact hK _ _ (Ext.refl _) (congrArg (Value.int .u32) (by rw [Hu72.out]; first | exact w_add _ _ | exact w_addW _ _))
            · -- 73 := Op.move t7
              have e7 := hf 7 rfl; simp [Act.eval] at e7
              go_simp; exact hK _ _ (Ext.refl _) rfl
            · -- 74 := Op.binOp BinOp.add 155 t72 t73 155
              have e72 := hs 7 72 (needs_direct (by kernel_rfl)) rfl; have e73 := hs 8 73 (needs_direct (by kernel_rfl)) rfl; simp [Act.eval] at e72 e73
              go_simp
              exact hK _ _ (Ext.refl _) (congrArg (Value.int .u32) (by rw [Hu74.out]; first | exact w_add _ _ | exact w_addW _ _))
            · -- 75 := Op.move t3
              have e3 := hf 3 rfl; simp [Act.eval] at e3
              go_simp; exact hK _ _ (Ext.refl _) rfl
            · -- 76 := Op.move t5
              have e5 := hf 5 rfl; simp [Act.eval] at e5
              go_simp; exact hK _ _ (Ext.refl _) rfl
            · -- 77 := Op.binOp BinOp.sub 3 t76 (const (16:i64)) 3
              have e76 := hs 11 76 (needs_direct (by kernel_rfl)) rfl; simp [Act.eval] at e76
              go_simp
              exact hK _ _ (Ext.refl _) (congrArg (Value.int .i64) (by have := HK16.out; first | (rw [wrap64s (by omega) (by omega)]; omega) | omega))
            · -- 78 := Op.indexAddr 161 t75 t77
              have e75 := hs 10 75 (needs_direct (by kernel_rfl)) rfl; have e77 := hs 12 77 (needs_direct (by kernel_rfl)) rfl; simp [Act.eval] at e75 e77
              go_simp
              exact hK _ _ (Ext.refl _) rfl
            · -- 79 := Op.load 155 t78
              have e78 := hs 13 78 (needs_direct (by kernel_rfl)) rfl; simp [Act.eval] at e78
              have hq := hle.cell hcN_k16
              go_simp; exact hK _ _ (Ext.refl _) rfl
            · -- 80 := Op.binOp BinOp.add 155 t74 t79 155
              have e74 := hs 9 74 (needs_direct (by kernel_rfl)) rfl; have e79 := hs 14 79 (needs_direct (by kernel_rfl)) rfl; simp [Act.eval] at e74 e79
              go_simp
              exact hK _ _ (Ext.refl _) (congrArg (Value.int .u32) (by rw [Hu80.out]; first | exact w_add _ _ | exact w_addW _ _))
            · -- 81 := Op.buildSlice 161 1 #[(0, t80)]
              have e80 := hs 15 80 (needs_direct (by kernel_rfl)) rfl; simp [Act.eval] at e80
              go_simp; exact hK _ _ (Ext.alloc _ _) ⟨_, rfl, heap_alloc_new _ _⟩
          intro vs wa hlea hs
          have v0 := hs 0 (by omega) rfl
          have v16 := hs 16 (by omega) rfl
          simp only at v0 v16
          clear hs
          obtain ⟨ga, va, hga⟩ := v16
          have HEA := hide (HE8.out.trans hlea)
          have HGA := hide hga
          have HNX3 : Hid (W ++ [u80] = schedN b (k + 1)) := hide (by
            rw [HNX.out, HNX2.out, Hu80.out, Hu74.out, Hu72.out, Hy44.out, Hy37.out, Hy43.out, Hz64.out, Hz57.out, Hz63.out]
            rfl)
          clear hiN_k7 hcN_k7 hiN_k16 hcN_k16 hga hlea
          simp only [putN, dstAt]
          go_simp
          go_wp2_with (at_builtin; go_loud (refine wpList_app (d := kW) (ys := [u80]) rfl _ _ _ rfl Tryd.underlying161 w_info rfl (by decide) 1 rfl rfl (.inl (HV.out.below HEA.out)) (Kd.Src.blk (d := kW) HGA.out (x := u80) (cs := [wv u80]) ⟨rfl, trivial⟩ rfl) ?_ ?_ ?_ ?_))
          · exact Nat.le_trans hwr HEA.out.size
          · have := HWL.out; simp only [maxLen]; omega
          · have := HWL.out; omega
          · intro vb wb _ h2 h3 _ _
            rw [HNX3.out] at h2
            have H2 := hide h2
            have H3 := hide ((HB.out.trans (HEA.out.mono hwr)).trans h3)
            clear h2 h3
            go_wp2
            refine ⟨?_, ?measure⟩
            refine ⟨_, _, _, _, _, _, _, _, _, _, _, _, _, _, _, _, _, _, _, _, _, _, _, _, _, _, _, _, _, _, _, _, _, _, _, _, _, _, _, _, _, _, _, _, _, _, _, _, _, _, _, _, _, _, _, _, _, _, _, _, _, _, _, _, _, _, ?rel, rfl⟩
            case rel => exact ⟨k + 1, by omega, by omega, by simp, H2, H3⟩
            case measure => simp [intOf]; omega
        · obtain rfl : k = 64 := by omega
          go_wp2_with fail
          go_ret
          exact ⟨_, rfl, by rw [← HWE.out]; exact HV.out, HB.out⟩
end Go.Proofs.YtdkeflhgengblaaDoor
