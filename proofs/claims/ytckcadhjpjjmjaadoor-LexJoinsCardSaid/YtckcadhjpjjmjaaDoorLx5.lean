/- Layer 16: the document's join; rows of texts compared. No condition. -/
import Derived.Test.YtckcadhjpjjmjaaDoorLx4
import Derived.Test.YtckcadhjpjjmjaaDoorSl
import Derived.Test.YtckcadhjpjjmjaaDoorReg3
import Derived.Test.YtckcadhjpjjmjaaDoorMxd
namespace Go.Proofs.YtckcadhjpjjmjaaDoor
open Go.RowKit
theorem txt_app2 (a b : List UInt8) : txt a ++ txt b = txt (a ++ b) := by
  apply ByteArray.ext
  rw [ByteArray.data_append]
  simp
theorem join_snoc (c : UInt8) (x : List UInt8) : ∀ l : List (List UInt8), l ≠ [] → Lib.join (l ++ [x]) [c] = Lib.join l [c] ++ c :: x
  | [], h => absurd rfl h
  | a :: r, _ => by
    rw [List.cons_append, Lib.join_cons, Lib.join_cons, Lib.joinTail, Lib.joinTail, List.map_append, List.flatten_append, ← List.append_assoc]
    simp
theorem join_take (c : UInt8) (l : List (List UInt8)) : ∀ k, (Lib.join (l.take k) [c]).length ≤ (Lib.join l [c]).length
  | 0 => Nat.zero_le _
  | k + 1 => by
    cases l with
    | nil => simp
    | cons a r =>
      rw [List.take_succ_cons, Lib.join_cons, Lib.join_cons, List.length_append, List.length_append]
      have : ∀ (r : List (List UInt8)) k, (Lib.joinTail [c] (r.take k)).length ≤ (Lib.joinTail [c] r).length := by
        intro r
        induction r with
        | nil => intro k; simp
        | cons b r ih =>
          intro k
          cases k with
          | zero => exact Nat.zero_le _
          | succ k =>
            have := ih k
            simp only [Lib.joinTail, List.take_succ_cons, List.map_cons, List.flatten_cons, List.length_append] at this ⊢
            omega
      have := this r k
      omega
set_option maxRecDepth 100000 in
set_option maxHeartbeats 1600000 in
theorem c_rfjoin (A : Option Addr) (n c : Nat) (l : List (List UInt8)) (ok : Nat → Prop) (w : World) (hR : kStr.Row ok w A n c (l.map txt)) (hj : (Lib.join l [44]).length ≤ 1000000) :
    Calls Tryd.prog 14 #[.slice A n c] w fun e w' => e = .returned (.string (txt (joinB geS l))) ∧ w' = w := by
  have hl : l.length = n := by rw [← hR.1, List.length_map]
  cases hb : riseB geS l with
  | false =>
    have HE : Hid (joinB geS l = []) := hide (by rw [joinB, hb]; rfl)
    have HB := hide hb
    have HR := hide hR
    clear hR hb
    go_enter Tryd.func14, Tryd.ntmps14
    go_wp2_with fail
    refine (c_rise l A n c ok w HR.out).mono ?_
    rintro e w1 ⟨rfl, rfl⟩
    rw [HB.out]
    go_wp2_with fail
    go_ret
    exact ⟨by rw [HE.out]; rfl, rfl⟩
  | true =>
    have hn32 : 1 ≤ n ∧ n ≤ 32 := by
      simp only [riseB, Bool.and_eq_true, decide_eq_true_eq] at hb
      omega
    obtain ⟨hn1, hn2⟩ := hn32
    have HE : Hid (joinB geS l = Lib.join l [44]) := hide (by rw [joinB, hb]; rfl)
    have HB := hide hb
    obtain ⟨x, hx⟩ : ∃ x, l[0]? = some x := ⟨_, List.getElem?_eq_getElem (by omega)⟩
    have hx2 : (l.map txt)[0]? = some (txt x) := by rw [List.getElem?_map, hx]; rfl
    obtain ⟨p, o, hix, hcx, -, -⟩ := row_str hR hx2
    have hix0 : ∀ wx : World, (Instr.indexAt 22 (.slice A n c) (.int .i64 0)).run Tryd.prog wx = .ok (.pointer (some ⟨p, o, none⟩)) wx := hix
    obtain ⟨B, hs1, hB⟩ := hR.from (P := Tryd.prog) Tryd.underlying22 (E := 9) str_info (k := 1) (by omega) .i64 1 rfl
    have H0 : Hid (Lib.join (l.take 1) [44] = x) := hide (by
      cases l with
      | nil => cases hx
      | cons a r =>
        have : a = x := by simpa using hx
        rw [this, List.take_succ_cons, List.take_zero, Lib.join_one])
    have HR := hide hR
    have HRB := hide hB
    have HL := hide hl
    have HJ := hide hj
    clear hR hb hB hl hj hx hx2 hix
    go_enter Tryd.func14, Tryd.ntmps14
    go_wp2_with fail
    refine (c_rise l A n c ok w HR.out).mono ?_
    rintro e w1 ⟨rfl, rfl⟩
    rw [HB.out]
    go_wp2_with fail
    go_loop [3, 15] (fun s i => ∃ (k : Nat) (q : List UInt8), k ≤ n - 1 ∧ i = .int .i64 (k : Int) ∧ s = .string (txt q) ∧ Hid (q = Lib.join (l.take (k + 1)) [44])) (fun _ i => n - 1 - (intOf i).toNat)
    case atStart => exact ⟨0, x, Nat.zero_le _, rfl, rfl, hide H0.out.symm⟩
    case round =>
      obtain ⟨k, q, hk, rfl, rfl, HT⟩ := hrel
      by_cases hlt : k < n - 1
      · obtain ⟨y, hy⟩ : ∃ y, l[k + 1]? = some y := ⟨_, List.getElem?_eq_getElem (by have := HL.out; omega)⟩
        have hy2 : ((l.map txt).drop 1)[k]? = some (txt y) := by rw [List.getElem?_drop, List.getElem?_map, Nat.add_comm, hy]; rfl
        obtain ⟨p2, o2, hiy, hcy, -, -⟩ := row_str HRB.out hy2
        have HQ : Hid (q ++ 44 :: y = Lib.join (l.take (k + 1 + 1)) [44]) := hide (by
          rw [List.take_add_one (i := k + 1), hy, HT.out]
          exact (join_snoc 44 y _ (by intro e; have h1 := congrArg List.length e; rw [List.length_take, List.length_nil] at h1; have h2 := HL.out; omega)).symm)
        have HQL : Hid ((q ++ 44 :: y).length ≤ 1000000) := hide (by rw [HQ.out]; exact Nat.le_trans (join_take 44 l _) HJ.out)
        have hs1y : ¬ 9223372036854775807 < 1 + y.length := by have := HQL.out; simp only [List.length_append, List.length_cons] at this; omega
        have hs2y : ¬ 9223372036854775807 < q.length + (1 + y.length) := by have := HQL.out; simp only [List.length_append, List.length_cons] at this; omega
        clear hy hy2
        go_wp2_with fail
        go_round
        case rel => exact ⟨k + 1, q ++ 44 :: y, by omega, by simp, by rw [show ({ data := #[44] } : ByteArray) = txt [44] from rfl, txt_app2, txt_app2]; rfl, HQ⟩
        case measure => simp [intOf]; omega
      · obtain rfl : k = n - 1 := by omega
        have HR9 : Hid (q = Lib.join l [44]) := hide (by rw [HT.out, List.take_of_length_le (by have := HL.out; omega)])
        go_wp2_with fail
        go_ret
        exact ⟨by rw [HE.out, ← HR9.out]; rfl, rfl⟩
set_option maxRecDepth 100000 in
set_option maxHeartbeats 1600000 in
theorem c_rfsame (A B : Option Addr) (n c m d : Nat) (xs ys : List ByteArray) (ok ok' : Nat → Prop) (w : World) (hR : kStr.Row ok w A n c xs) (hS : kStr.Row ok' w B m d ys) :
    Calls Tryd.prog 15 #[.slice A n c, .slice B m d] w fun e w' => e = .returned (.bool (decide (xs = ys))) ∧ Below w.heap.size w w' := by
  have hl := hR.1
  have hm := hS.1
  have hn63 : n ≤ 9223372036854775807 := Nat.le_trans hR.2.1 hR.2.2.1
  have hm63 : m ≤ 9223372036854775807 := Nat.le_trans hS.2.1 hS.2.2.1
  by_cases hnm : n = m
  · subst hnm
    have HL := hide hl
    have HM := hide hm
    have HR := hide hR
    have HS := hide hS
    clear hR hS hl hm
    go_enter Tryd.func15, Tryd.ntmps15
    go_wp2_with fail
    go_loopw [13] (fun i wr => ∃ k : Nat, k ≤ n ∧ i = .int .i64 (k : Int) ∧ Hid (xs.take k = ys.take k) ∧ Hid (Below w.heap.size w wr)) (fun i _ => n - (intOf i).toNat)
    case atStart => exact ⟨0, Nat.zero_le _, rfl, hide rfl, hide (Below.refl _ _)⟩
    case round =>
      obtain ⟨k, hk, rfl, HT, HB⟩ := hrel
      by_cases hlt : k < n
      · obtain ⟨x, hx⟩ : ∃ x, xs[k]? = some x := ⟨_, List.getElem?_eq_getElem (by have := HL.out; omega)⟩
        obtain ⟨y, hy⟩ : ∃ y, ys[k]? = some y := ⟨_, List.getElem?_eq_getElem (by have := HM.out; omega)⟩
        obtain ⟨p, o, hix, hcx, -, -⟩ := row_str (HR.out.below HB.out) hx
        obtain ⟨p2, o2, hiy, hcy, -, -⟩ := row_str (HS.out.below HB.out) hy
        have HIX := hide hix
        have HIY := hide hiy
        have HCX := hide hcx
        have HCY := hide hcy
        have HEQ : Hid ((!(x.toList == y.toList)) = decide (¬ x = y)) := hide (by
          rw [Bool.eq_iff_iff]
          simp only [Bool.not_eq_true', beq_eq_false_iff_ne, decide_eq_true_eq, ne_eq]
          rw [ByteArray.toList_eq, ByteArray.toList_eq]
          exact not_congr ⟨fun h => by rw [← txt_byt x, ← txt_byt y]; exact congrArg txt h, fun h => by rw [h]⟩)
        have HNX : Hid (¬ x = y → decide (xs = ys) = false) := hide (fun h => decide_eq_false (fun e => h (by rw [e, hy] at hx; exact (Option.some.inj hx).symm)))
        have HTX : Hid (x = y → xs.take (k + 1) = ys.take (k + 1)) := hide (fun h => by rw [List.take_add_one, List.take_add_one, HT.out, hx, hy, h])
        clear hx hy hix hiy hcx hcy
        go_wp2_with fail
        refine wp_region_ext mixed 9 (fun i v w' => match i with
          | 0 => v = .slice A n c
          | 1 => v = .int .i64 (k : Int)
          | 2 => v = .pointer (some ⟨p, o, none⟩)
          | 3 => v = .string x
          | 4 => v = .slice B n d
          | 5 => v = .int .i64 (k : Int)
          | 6 => v = .pointer (some ⟨p2, o2, none⟩)
          | 7 => v = .string y
          | _ => v = .bool !(x.toList == y.toList)
          ) (regOk_of (by kernel_rfl)) rfl ?_ ?_ ?_
        · intro i v w1 w2 h1 h2
          split at h2 <;> exact h2
        · refine ⟨fun a w2 hle hd hf hs K hK => ?_, fun a w2 hle hd hf hs K hK => ?_, fun a w2 hle hd hf hs K hK => ?_, fun a w2 hle hd hf hs K hK => ?_, fun a w2 hle hd hf hs K hK => ?_, fun a w2 hle hd hf hs K hK => ?_, fun a w2 hle hd hf hs K hK => ?_, fun a w2 hle hd hf hs K hK => ?_, fun a w2 hle hd hf hs K hK => ?_, trivial⟩
          all_goals clear hd
          · -- 16 := Op.move t0
            have e0 := hf 0 rfl; simp [Act.eval] at e0
            go_simp; exact hK _ _ (Ext.refl _) rfl
          · -- 17 := Op.move t5
            have e5 := hf 5 rfl; simp [Act.eval] at e5
            go_simp; exact hK _ _ (Ext.refl _) rfl
          · -- 18 := Op.indexAddr 22 t16 t17
            have e16 := hs 0 16 (needs_direct (by kernel_rfl)) rfl; have e17 := hs 1 17 (needs_direct (by kernel_rfl)) rfl; simp [Act.eval] at e16 e17
            have hix := HIX.out
            go_simp; exact hK _ _ (Ext.refl _) rfl
          · -- 19 := Op.load 9 t18
            have e18 := hs 2 18 (needs_direct (by kernel_rfl)) rfl; simp [Act.eval] at e18
            have hq := hle.cell HCX.out
            go_simp; exact hK _ _ (Ext.refl _) rfl
          · -- 20 := Op.move t1
            have e1 := hf 1 rfl; simp [Act.eval] at e1
            go_simp; exact hK _ _ (Ext.refl _) rfl
          · -- 21 := Op.move t5
            have e5 := hf 5 rfl; simp [Act.eval] at e5
            go_simp; exact hK _ _ (Ext.refl _) rfl
          · -- 22 := Op.indexAddr 22 t20 t21
            have e20 := hs 4 20 (needs_direct (by kernel_rfl)) rfl; have e21 := hs 5 21 (needs_direct (by kernel_rfl)) rfl; simp [Act.eval] at e20 e21
            have hiy := HIY.out
            go_simp; exact hK _ _ (Ext.refl _) rfl
          · -- 23 := Op.load 9 t22
            have e22 := hs 6 22 (needs_direct (by kernel_rfl)) rfl; simp [Act.eval] at e22
            have hq := hle.cell HCY.out
            go_simp; exact hK _ _ (Ext.refl _) rfl
          · -- 24 := Op.binOp BinOp.neq 9 t19 t23 9
            have e19 := hs 3 19 (needs_direct (by kernel_rfl)) rfl; have e23 := hs 7 23 (needs_direct (by kernel_rfl)) rfl; simp [Act.eval] at e19 e23
            go_simp; exact hK _ _ (Ext.refl _) rfl
        intro vs w8 hle hs
        have v8 := hs 8 (by omega) rfl
        simp only at v8
        clear hs
        rw [HEQ.out] at v8
        have HB8 := hide (HB.out.trans (hle.mono HB.out.size))
        clear hle
        simp only [putN, dstAt]
        by_cases hxy : x = y
        · have HT2 := hide (HTX.out hxy)
          rw [decide_eq_false (not_not_intro hxy)] at v8
          clear hxy
          go_simp
          go_wp2_with fail
          go_roundw
          case rel => exact ⟨k + 1, by omega, by simp, HT2, HB8⟩
          case measure => simp [intOf]; omega
        · have HE := hide (HNX.out hxy)
          rw [decide_eq_true hxy] at v8
          clear hxy
          go_simp
          go_wp2_with fail
          go_ret
          exact ⟨by rw [HE.out]; rfl, HB8.out⟩
      · obtain rfl : k = n := by omega
        have HE : Hid (decide (xs = ys) = true) := hide (decide_eq_true (by
          have := HT.out
          rwa [List.take_of_length_le (Nat.le_of_eq HL.out), List.take_of_length_le (Nat.le_of_eq HM.out)] at this))
        go_wp2_with fail
        go_ret
        exact ⟨by rw [HE.out]; rfl, HB.out⟩
  · have hnm' : ¬ (n : Int) = (m : Int) := by omega
    have HE : Hid (decide (xs = ys) = false) := hide (decide_eq_false (fun e => hnm (by rw [← hl, ← hm, e])))
    clear hR hS hl hm
    go_enter Tryd.func15, Tryd.ntmps15
    go_wp2_with fail
    go_ret
    exact ⟨by rw [HE.out]; rfl, Below.refl _ _⟩
end Go.Proofs.YtckcadhjpjjmjaaDoor
