/- Layer 16: rows of texts compared; names joined: lex.Join. No condition. -/
import Derived.Test.YtckcadhjpjjmjaaDoorLx3
namespace Go.Proofs.YtckcadhjpjjmjaaDoor
open Go.RowKit
theorem row_cells {ok : Nat → Prop} {w : World} {A : Option Addr} {n c : Nat} {xs : List ByteArray} (h : kStr.Row ok w A n c xs) (hn : 0 < n) :
    ∃ b o, A = some ⟨b, o, none⟩ ∧ b < w.heap.size ∧ ∀ (j : Nat) (x : ByteArray), xs[j]? = some x → w.cell? ⟨b, o + j, none⟩ = some (.string x) := by
  obtain ⟨b, o, e, -, hb, hc⟩ := h.2.2.2 hn
  refine ⟨b, o, e, hb, fun j x hx => ?_⟩
  obtain ⟨cs, ⟨rfl, -⟩, hr⟩ := hc j x hx
  have := hr 0 _ rfl
  simpa [kStr, Kd.cell] using this
theorem row_getD {ok : Nat → Prop} {w : World} {A : Option Addr} {n c : Nat} {xs : List ByteArray} (h : kStr.Row ok w A n c xs) (hn : 0 < n) :
    ∃ b o, A = some ⟨b, o, none⟩ ∧ b < w.heap.size ∧ ∀ j, j < xs.length → w.cell? ⟨b, o + j, none⟩ = some (.string (xs.getD j ByteArray.empty)) := by
  obtain ⟨b, o, e, hb, hc⟩ := row_cells h hn
  refine ⟨b, o, e, hb, fun j hj => ?_⟩
  have := hc j xs[j] (List.getElem?_eq_getElem hj)
  rw [this, List.getD_eq_getElem?_getD, List.getElem?_eq_getElem hj]
  rfl
/-- Two rows of texts compared by the library. -/
theorem c_equal (A B : Option Addr) (n c m d : Nat) (xs ys : List ByteArray) (ok ok' : Nat → Prop) (w : World) (hR : kStr.Row ok w A n c xs) (hS : kStr.Row ok' w B m d ys) :
    Calls Tryd.prog 49 #[.slice A n c, .slice B m d] w fun e w' => e = .returned (.bool (decide (xs = ys))) ∧ Below w.heap.size w w' := by
  have hn := hR.1
  have hm := hS.1
  have hn63 : n ≤ 9223372036854775807 := Nat.le_trans hR.2.1 hR.2.2.1
  have hm63 : m ≤ 9223372036854775807 := Nat.le_trans hS.2.1 hS.2.2.1
  by_cases hnm : n = m
  · subst hnm
    rcases Nat.eq_zero_or_pos n with h0 | h0
    · subst h0
      have e1 : xs = [] := List.length_eq_zero_iff.1 hn
      have e2 : ys = [] := List.length_eq_zero_iff.1 hm
      refine (Tryd.slices_Equal_string_empty A B c 0 d w (by decide)).mono ?_
      rintro e w' ⟨rfl, rfl⟩
      exact ⟨by rw [e1, e2]; rfl, Below.refl _ _⟩
    · obtain ⟨b, o, rfl, -, hc⟩ := row_getD hR h0
      obtain ⟨b2, o2, rfl, -, hd⟩ := row_getD hS h0
      refine (Tryd.slices_Equal_string b o n c b2 o2 n d xs ys w (by omega) (by omega) hn63 hn63 hc hd).mono ?_
      rintro e w' ⟨rfl, q, rfl⟩
      exact ⟨by rw [List.take_of_length_le (Nat.le_of_eq hn), List.take_of_length_le (Nat.le_of_eq hm)], ⟨rfl, rfl, rfl, Nat.le_refl _, fun _ _ => rfl⟩⟩
  · refine (Tryd.slices_Equal_string_lens A B n c m d w hnm).mono ?_
    rintro e w' ⟨rfl, rfl⟩
    exact ⟨by rw [decide_eq_false (fun e => hnm (by rw [← hn, ← hm, e]))], Below.refl _ _⟩
/-- Texts joined by the library. -/
theorem c_sjoin (A : Option Addr) (n c : Nat) (l : List (List UInt8)) (ok : Nat → Prop) (w : World) (hR : kStr.Row ok w A n c (l.map txt)) (hj : (Lib.join l [44]).length ≤ 140737488355328) (hn : n ≤ 140737488355328) :
    Calls Tryd.prog 48 #[.slice A n c, .string ⟨#[44]⟩] w fun e w' => e = .returned (.string (txt (Lib.join l [44]))) ∧ Below w.heap.size w w' := by
  have hl : (l.map txt).length = n := hR.1
  have e2 : ((l.map txt).map (·.data.toList)) = l := by
    rw [List.map_map]
    conv => rhs; rw [← List.map_id l]
    exact List.map_congr_left fun x _ => byt_txt x
  rcases Nat.eq_zero_or_pos n with h0 | h0
  · subst h0
    have e1 : l = [] := by simpa using hl
    refine (Tryd.strings_Join_none A c ⟨#[44]⟩ w).mono ?_
    rintro e w' ⟨rfl, rfl⟩
    exact ⟨by rw [e1]; rfl, Below.refl _ _⟩
  · obtain ⟨b, o, rfl, hb, hc⟩ := row_cells hR h0
    have h := Tryd.strings_Join b o c (l.map txt) ⟨#[44]⟩ w hc hb (by omega) (by rw [hl]; exact hR.2.1) (by rw [e2]; exact hj)
    rw [e2, hl] at h
    exact h
set_option maxRecDepth 100000 in
set_option maxHeartbeats 1600000 in
theorem c_ljoin (A : Option Addr) (n c : Nat) (l : List (List UInt8)) (m : Int) (ok : Nat → Prop) (w : World) (hR : kStr.Row ok w A n c (l.map txt)) (hj : (Lib.join l [44]).length ≤ 1000000) (hn : n ≤ 1000000) (hm : w.cell? ⟨5, 0, none⟩ = some (.int .i64 m)) :
    Calls Tryd.prog 12 #[.slice A n c] w fun e w' => e = .returned (.string (txt (joinB geS l))) ∧ Below w.heap.size w w' := by
  have hB := join_back geS l
  obtain ⟨j, hj0⟩ : ∃ j, Lib.join l [44] = j := ⟨_, rfl⟩
  have hJ := c_sjoin A n c l ok w hR (by omega) (by omega)
  rw [hj0] at hJ hB hj
  obtain ⟨r, hr⟩ : ∃ r, joinB geS l = r := ⟨_, rfl⟩
  rw [hr] at hB ⊢
  have h5 : 5 < w.heap.size := World.block_lt_of_cell? _ _ hm
  have HB := hide hB
  have HR := hide hR
  have HM := hide hm
  have HJL := hide hj
  clear hB hR hm hj hj0 hr
  go_enter Tryd.func12, Tryd.ntmps12
  go_wp2_with fail
  refine hJ.mono ?_
  rintro e w1 ⟨rfl, b1⟩
  have HB1 := hide b1
  have hm1 : w1.cell? ⟨5, 0, none⟩ = some (.int .i64 m) := (b1.cell (p := ⟨5, 0, none⟩) h5).trans HM.out
  have HM1 := hide hm1
  clear hJ b1 hm1
  go_wp2_with fail
  refine (c_lnames j m w1 HJL.out HM1.out).mono ?_
  rintro e w2 ⟨A2, n2, c2, rfl, hr2, b2⟩
  have HB2 := hide (HB1.out.trans (b2.mono HB1.out.size))
  cases hnb : namesB geS j with
  | none =>
    have HE : Hid (r = []) := hide (by have := HB.out; rw [hnb] at this; exact this.symm)
    clear hr2 b2 hnb
    go_wp2_with fail
    go_ret
    exact ⟨by rw [HE.out]; rfl, HB2.out⟩
  | some mm =>
    rw [hnb] at hr2
    have hr2' : kStr.Row (fun k => w1.heap.size ≤ k) w2 A2 n2 c2 (mm.map txt) := hr2
    have HR2 := hide hr2'
    have HRl := hide ((HR.out.below HB2.out))
    have HE0 : Hid ((if mm = l then j else []) = r) := hide (by have := HB.out; rw [hnb] at this; exact this)
    have hdd : decide (mm.map txt = l.map txt) = decide (mm = l) := by
      rw [Bool.eq_iff_iff, decide_eq_true_eq, decide_eq_true_eq]
      refine ⟨fun e => ?_, fun e => by rw [e]⟩
      have h := congrArg (List.map byt) e
      rw [List.map_map, List.map_map] at h
      have e3 : ∀ q : List (List UInt8), List.map (byt ∘ txt) q = q := fun q => by
        conv => rhs; rw [← List.map_id q]
        exact List.map_congr_left fun x _ => byt_txt x
      rwa [e3, e3] at h
    have HDD := hide hdd
    clear hr2 hr2' b2 hnb hdd
    go_wp2_with fail
    refine (c_equal A2 A n2 c2 n c _ _ _ _ w2 HR2.out HRl.out).mono ?_
    rintro e w3 ⟨rfl, b3⟩
    rw [HDD.out]
    have HB3 := hide (HB2.out.trans (b3.mono HB2.out.size))
    clear b3
    by_cases hml : mm = l
    · have HE : Hid (r = j) := hide (by rw [← HE0.out, if_pos hml])
      rw [decide_eq_true hml]
      clear hml
      go_wp2_with fail
      go_ret
      exact ⟨by rw [HE.out]; rfl, HB3.out⟩
    · have HE : Hid (r = []) := hide (by rw [← HE0.out, if_neg hml])
      rw [decide_eq_false hml]
      clear hml
      go_wp2_with fail
      go_ret
      exact ⟨by rw [HE.out]; rfl, HB3.out⟩
end Go.Proofs.YtckcadhjpjjmjaaDoor
