/- The statement LexJoins walked. No condition. -/
import Derived.Test.YtckcadhjpjjmjaaDoorLx5
namespace Go.Proofs.YtckcadhjpjjmjaaDoor
open Go.RowKit
theorem texts_of (ys : List ByteArray) : ∃ l : List (List UInt8), ys = l.map txt := by
  refine ⟨ys.map byt, ?_⟩
  rw [List.map_map]
  conv => lhs; rw [← List.map_id ys]
  exact List.map_congr_left fun s _ => (txt_byt s).symm
def uLR : List UInt8 := [108, 105, 115, 116, 44, 114, 101, 97, 100]
def uRL : List UInt8 := [114, 101, 97, 100, 44, 108, 105, 115, 116]
theorem names_LR : namesB geS uLR = some [[108, 105, 115, 116], [114, 101, 97, 100]] := by decide +kernel
theorem names_RL : namesB geS uRL = none := by decide +kernel
set_option maxRecDepth 100000 in
set_option maxHeartbeats 1600000 in
theorem c_lxalive (m : Int) (w : World) (hm : w.cell? ⟨5, 0, none⟩ = some (.int .i64 m)) :
    Calls Tryd.prog 11 #[] w fun e w' => e = .returned (.bool true) ∧ Below w.heap.size w w' := by
  have h5 : 5 < w.heap.size := World.block_lt_of_cell? _ _ hm
  have HM := hide hm
  clear hm
  go_enter Tryd.func11, Tryd.ntmps11
  go_wp2_with fail
  refine (c_lnames uLR m w (by decide) HM.out).mono ?_
  rintro e w1 ⟨A1, n1, c1, rfl, hr1, b1⟩
  rw [names_LR] at hr1 ⊢
  have hn1 : n1 = 2 := hr1.1.symm
  subst hn1
  have HB1 := hide b1
  have HM1 := hide ((b1.cell (p := ⟨5, 0, none⟩) h5).trans HM.out)
  clear hr1 b1
  go_wp2_with fail
  refine (c_lnames uRL m w1 (by decide) HM1.out).mono ?_
  rintro e w2 ⟨A2, n2, c2, rfl, hr2, b2⟩
  rw [names_RL]
  have HB2 := hide (HB1.out.trans (b2.mono HB1.out.size))
  clear hr2 b2
  go_wp2_with fail
  go_ret
  exact ⟨rfl, HB2.out⟩
/-- How many letters there are, and signs between. -/
def lsum (l : List (List UInt8)) : Nat := (l.map fun x => x.length + 1).sum
theorem lsum_take (l : List (List UInt8)) (k : Nat) : lsum (l.take k) ≤ lsum l := by
  conv => rhs; rw [← List.take_append_drop k l]
  rw [lsum, lsum, List.map_append, List.sum_append]
  omega
theorem lsum_join : ∀ l : List (List UInt8), (Lib.join l [44]).length ≤ lsum l
  | [] => by simp [Lib.join_nil]
  | a :: r => by
    rw [Lib.join_cons, List.length_append, lsum, List.map_cons, List.sum_cons]
    have : ∀ r : List (List UInt8), (Lib.joinTail [44] r).length = (r.map fun x => x.length + 1).sum := by
      intro r
      induction r with
      | nil => rfl
      | cons b r ih =>
        simp only [Lib.joinTail, List.map_cons, List.flatten_cons, List.length_append, List.sum_cons] at ih ⊢
        rw [ih]
        simp
        omega
    rw [this r]
    omega
theorem lsum_len : ∀ l : List (List UInt8), l.length ≤ lsum l
  | [] => Nat.zero_le _
  | a :: r => by
    have := lsum_len r
    rw [lsum, List.map_cons, List.sum_cons, List.length_cons]
    simp only [lsum] at this
    omega
set_option maxRecDepth 100000 in
set_option maxHeartbeats 3200000 in
theorem c_lexjoins (A : Option Addr) (n c : Nat) (l : List (List UInt8)) (m : Int) (ok : Nat → Prop) (w : World) (hR : kStr.Row ok w A n c (l.map txt)) (hs : ∀ x ∈ l, x.length ≤ 140737488355328) (hm : w.cell? ⟨5, 0, none⟩ = some (.int .i64 m)) :
    Calls Tryd.prog 3 #[.slice A n c] w fun e w' => e = .returned (.bool true) ∧ Below w.heap.size w w' := by
  have h5 : 5 < w.heap.size := World.block_lt_of_cell? _ _ hm
  have hl : l.length = n := by rw [← hR.1, List.length_map]
  have hn63 : n ≤ 9223372036854775807 := Nat.le_trans hR.2.1 hR.2.2.1
  have HR := hide hR
  have HS := hide hs
  have HM := hide hm
  have HL := hide hl
  clear hR hs hm hl
  go_enter Tryd.func3, Tryd.ntmps3
  go_wp2_with fail
  refine (c_lxalive m w HM.out).mono ?_
  rintro e w1 ⟨rfl, b1⟩
  have HB1 := hide b1
  have HM1 := hide ((b1.cell (p := ⟨5, 0, none⟩) h5).trans HM.out)
  have HR1 := hide (HR.out.bound.below b1)
  have hs1 := b1.size
  clear b1
  go_wp2_with fail
  go_loop [3, 13] (fun q i => ∃ (k r : Nat), k ≤ n ∧ i = .int .i64 (k : Int) ∧ q = .int .i64 (r : Int) ∧ r ≤ 2000 ∧ Hid (r = lsum (l.take k))) (fun _ i => n - (intOf i).toNat)
  case atStart => exact ⟨0, 0, Nat.zero_le _, rfl, rfl, Nat.zero_le _, hide rfl⟩
  case round =>
    obtain ⟨k, r, hk, rfl, rfl, hr, HT⟩ := hrel
    by_cases hlt : k < n
    · obtain ⟨x, hx⟩ : ∃ x, l[k]? = some x := ⟨_, List.getElem?_eq_getElem (by have := HL.out; omega)⟩
      have hx2 : (l.map txt)[k]? = some (txt x) := by rw [List.getElem?_map, hx]; rfl
      obtain ⟨p, o, hix, hcx, -, -⟩ := row_str HR1.out hx2
      have hx47 := HS.out x (List.mem_of_getElem? hx)
      have HQ : Hid (r + (x.length + 1) = lsum (l.take (k + 1))) := hide (by
        rw [List.take_add_one, hx, HT.out, lsum, lsum, List.map_append, List.sum_append]
        simp)
      clear hx hx2
      by_cases hbig : 2000 < r + (x.length + 1)
      · have hbig' : (2000 : Int) < (r : Int) + ((x.length : Int) + 1) := by omega
        go_wp2_with fail
        go_ret
        exact ⟨rfl, HB1.out⟩
      · have hbig' : ¬ (2000 : Int) < (r : Int) + ((x.length : Int) + 1) := by omega
        go_wp2_with fail
        go_round
        case rel => exact ⟨k + 1, r + (x.length + 1), by omega, by simp, by simp, by omega, HQ⟩
        case measure => simp [intOf]; omega
    · obtain rfl : k = n := by omega
      have hsum : lsum l ≤ 2000 := by
        have := HT.out
        rw [List.take_of_length_le (Nat.le_of_eq HL.out)] at this
        omega
      have HJ : Hid ((Lib.join l [44]).length ≤ 2000) := hide (Nat.le_trans (lsum_join l) hsum)
      have hk2 : k ≤ 2000 := by have := lsum_len l; have := HL.out; omega
      clear hsum
      have HO : Hid (kStr.Own (fun _ => True) w1.heap.size (w1.alloc (.cells #[] 9)) 9 (.slice (some ⟨w1.heap.size, 0, none⟩) 0 0) []) := hide (Kd.Own.lit (.nil _ _ _) #[] rfl 0 rfl (Nat.zero_le _) _ rfl (Nat.le_refl _))
      have HSR : Hid (kStr.Src (fun j => True ∧ some j ≠ (Value.slice (some ⟨w1.heap.size, 0, none⟩) 0 0).ownBlock) (w1.alloc (.cells #[] 9)) A k (l.map txt)) := hide (((HR1.out.bound.more (ok' := fun j => True ∧ some j ≠ (Value.slice (some ⟨w1.heap.size, 0, none⟩) 0 0).ownBlock) (fun j hj => ⟨trivial, fun e => by have h8 : j = w1.heap.size := Option.some.inj e; have := hj.2; omega⟩)).alloc _).src)
      go_wp2_with (at_builtin; go_loud (refine wpList_app (d := kStr) (ok := fun _ => True) (base := w1.heap.size) rfl _ _ _ rfl Tryd.underlying22 str_inf rfl (by decide) c rfl rfl (.inl HO.out) HSR.out ?_ ?_ ?_ ?_))
      · simp only [maxLen]; omega
      · omega
      intro v2 w2 _ h2 b2 _ _
      obtain ⟨A2, c2, rfl, hr2⟩ := (h2 (.inr HO.out)).row
      have hlm : (l.map txt).length = k := by rw [List.length_map]; exact HL.out
      rw [hlm] at hr2 ⊢
      have b12 : Below w1.heap.size w1 w2 := ((Below.refl _ _).alloc (Nat.le_refl _) _).trans b2
      have HR2 := hide hr2
      have HRA := hide (HR1.out.below b12)
      have HB2 := hide (HB1.out.trans (b12.mono HB1.out.size))
      have HM2 := hide ((b12.cell (p := ⟨5, 0, none⟩) (show 5 < w1.heap.size from by omega)).trans HM1.out)
      have hs2 := b12.size
      clear h2 hr2 b2 b12 HO HSR hlm
      go_wp2_with fail
      refine (c_ljoin A2 k c2 l m _ w2 HR2.out (by have := HJ.out; omega) (by omega) HM2.out).mono ?_
      rintro e w3 ⟨rfl, b3⟩
      obtain ⟨J, hJ⟩ : ∃ J, joinB geS l = J := ⟨_, rfl⟩
      have HNB := hide (names_back geS l)
      have HNE : Hid (riseB geS l = true → ¬ J = []) := hide (fun h => by rw [← hJ]; exact join_ne geS l h)
      have HJ0 : Hid (riseB geS l = false → J = []) := hide (fun h => by rw [← hJ, joinB, h]; rfl)
      have hJL : J.length ≤ 2000 := by
        rw [← hJ, joinB]
        split
        · exact HJ.out
        · exact Nat.zero_le _
      have HJ3 := hide hJ
      rw [hJ] at HNB ⊢
      have HRB := hide (HRA.out.below b3)
      have HB3 := hide (HB2.out.trans (b3.mono HB2.out.size))
      have HM3 := hide ((b3.cell (p := ⟨5, 0, none⟩) (show 5 < w2.heap.size from by omega)).trans HM2.out)
      clear b3 hJ
      go_wp2_with fail
      refine (c_lnames J m w3 (by omega) HM3.out).mono ?_
      rintro e w4 ⟨A4, n4, c4, rfl, hr4, b4⟩
      rw [HNB.out] at hr4 ⊢
      have HRC := hide (HRB.out.below b4)
      have HB4 := hide (HB3.out.trans (b4.mono HB3.out.size))
      clear b4
      cases hrb : riseB geS l with
      | false =>
        obtain rfl : J = [] := HJ0.out hrb
        have HJ5 := hide (HJ3.out)
        have hd : (((txt [])  : ByteArray).toList == (txt []).toList) = true := beq_self_eq_true _
        clear hr4
        go_wp2_with fail
        refine (c_rfjoin A k c l _ w4 HRC.out (by have := HJ.out; omega)).mono ?_
        rintro e w5 ⟨rfl, rfl⟩
        rw [HJ5.out]
        go_wp2_with fail
        go_ret
        exact ⟨rfl, HB4.out⟩
      | true =>
        have hne := HNE.out hrb
        have hJe : J.isEmpty = false := by cases J with | nil => exact absurd rfl hne | cons a b => rfl
        rw [hrb] at hr4
        have hr4' : kStr.Row (fun j => w3.heap.size ≤ j) w4 A4 n4 c4 (l.map txt) := hr4
        have HR4 := hide hr4'
        clear hr4 hr4'
        go_wp2_with fail
        refine (c_rfjoin A k c l _ w4 HRC.out (by have := HJ.out; omega)).mono ?_
        rintro e w5 ⟨rfl, rfl⟩
        rw [HJ3.out]
        go_wp2_with fail
        refine (c_rfsame A A4 k c n4 c4 _ _ _ _ _ HRC.out HR4.out).mono ?_
        rintro e w6 ⟨rfl, b6⟩
        rw [decide_eq_true rfl]
        have HB6 := hide (HB4.out.trans (b6.mono HB4.out.size))
        clear b6
        go_wp2_with fail
        go_ret
        exact ⟨rfl, HB6.out⟩
end Go.Proofs.YtckcadhjpjjmjaaDoor
