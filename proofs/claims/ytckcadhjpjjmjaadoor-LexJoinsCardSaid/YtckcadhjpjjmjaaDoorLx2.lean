/- Layer 16: names that rise: the document's, and the program's. No condition. -/
import Derived.Test.YtckcadhjpjjmjaaDoorLx1
import Derived.Test.YtckcadhjpjjmjaaDoorStr
import Derived.Shelf.SlSorted.Search
namespace Go.Proofs.YtckcadhjpjjmjaaDoor
open Go.RowKit
/-- Is the one not below the other? -/
def geS (a b : List UInt8) : Bool := !(Op.bytesLess a b)
theorem c_rname0 (s : ByteArray) (w : World) (hs : s.size ≤ maxLen) : Calls Tryd.prog 39 #[.string s] w fun e w' => e = .returned (.bool (isNm (byt s))) ∧ w' = w := by
  have h := c_rname (byt s) w (by rw [byt_len]; exact hs)
  rwa [txt_byt] at h
/-- What stands ahead. -/
def prevO (l : List (List UInt8)) : Nat → Option (List UInt8)
  | 0 => none
  | k + 1 => l[k]?
theorem rises_step {l : List (List UInt8)} {k : Nat} {x : List UInt8} (hx : l[k]? = some x) : rises geS (prevO l k) (l.drop k) = ((isNm x && !(match prevO l k with | none => false | some q => geS q x)) && rises geS (prevO l (k + 1)) (l.drop (k + 1))) := by
  obtain ⟨hk, rfl⟩ := List.getElem?_eq_some_iff.1 hx
  rw [List.drop_eq_getElem_cons hk, show prevO l (k + 1) = some l[k] from hx]
  rfl
/-- Pieces in memory. -/
def NamesR (w : World) (o : Option (List (List UInt8))) (e : Ending) (w' : World) : Prop :=
  ∃ A n c, e = .returned (.tuple #[.slice A n c, .bool o.isSome]) ∧ kStr.Row (fun k => w.heap.size ≤ k) w' A n c ((o.getD []).map txt) ∧ Below w.heap.size w w'
set_option maxRecDepth 100000 in
set_option maxHeartbeats 1600000 in
theorem c_rise (l : List (List UInt8)) (A : Option Addr) (n c : Nat) (ok : Nat → Prop) (w : World) (hR : kStr.Row ok w A n c (l.map txt)) :
    Calls Tryd.prog 51 #[.slice A n c] w fun e w' => e = .returned (.bool (riseB geS l)) ∧ w' = w := by
  have hl : l.length = n := by rw [← hR.1, List.length_map]
  have hn63 : n ≤ 9223372036854775807 := Nat.le_trans hR.2.1 hR.2.2.1
  by_cases h1 : n < 1
  · have h1' : (n : Int) < 1 := by omega
    rw [show riseB geS l = false from by rw [riseB, hl, decide_eq_false (by omega)]; rfl]
    clear hR hl
    go_enter Tryd.func51, Tryd.ntmps51
    go_wp2_with fail
    go_ret
    exact ⟨rfl, rfl⟩
  · have h1' : ¬ (n : Int) < 1 := by omega
    by_cases h32 : 32 < n
    · have h32' : (32 : Int) < n := by omega
      rw [show riseB geS l = false from by rw [riseB, hl, decide_eq_true (by omega), decide_eq_false (by omega)]; rfl]
      clear hR hl
      go_enter Tryd.func51, Tryd.ntmps51
      go_wp2_with fail
      go_ret
      exact ⟨rfl, rfl⟩
    · have h32' : ¬ (32 : Int) < n := by omega
      have HB : Hid (riseB geS l = rises geS none l) := hide (by rw [riseB, hl, decide_eq_true (by omega), decide_eq_true (by omega)]; rfl)
      have HR := hide hR
      have HL := hide hl
      clear hR hl
      go_enter Tryd.func51, Tryd.ntmps51
      go_wp2_with fail
      go_loop [15] (fun i => ∃ k : Nat, k ≤ n ∧ i = .int .i64 (k : Int) ∧ Hid (rises geS (prevO l k) (l.drop k) = rises geS none l)) (fun i => n - (intOf i).toNat)
      case atStart => exact ⟨0, Nat.zero_le _, rfl, hide rfl⟩
      case round =>
        obtain ⟨k, hk, rfl, HT⟩ := hrel
        by_cases hlt : k < n
        · obtain ⟨x, hx⟩ : ∃ x, l[k]? = some x := ⟨_, List.getElem?_eq_getElem (by have := HL.out; omega)⟩
          have hx2 : (l.map txt)[k]? = some (txt x) := by rw [List.getElem?_map, hx]; rfl
          obtain ⟨p, o, hix, hcx, -, hsx⟩ := row_str (h := HR.out) hx2
          have HS := hide (rises_step hx)
          cases hnm : isNm x with
          | false =>
            have HE : Hid (riseB geS l = false) := hide (by rw [HB.out, ← HT.out, HS.out, hnm]; rfl)
            have HN := hide hnm
            clear hx hx2 hnm
            go_wp2_with fail
            refine (c_rname0 (txt x) w hsx).mono ?_
            rintro e w5 ⟨rfl, rfl⟩
            rw [byt_txt, HN.out]
            go_wp2_with fail
            go_ret
            exact ⟨by rw [HE.out]; rfl, rfl⟩
          | true =>
            have HN := hide hnm
            by_cases h0 : k = 0
            · subst h0
              have hix0 : ∀ wx : World, (Instr.indexAt 22 (.slice A n c) (.int .i64 0)).run Tryd.prog wx = .ok (.pointer (some ⟨p, o, none⟩)) wx := hix
              clear hix
              have HT2 : Hid (rises geS (prevO l 1) (l.drop 1) = rises geS none l) := hide (by rw [← HT.out, HS.out, hnm]; simp [prevO])
              clear hx hx2 hnm
              go_wp2_with fail
              refine (c_rname0 (txt x) w hsx).mono ?_
              rintro e w5 ⟨rfl, rfl⟩
              rw [byt_txt, HN.out]
              go_wp2_with fail
              go_round
              case rel => exact ⟨1, by omega, by simp, HT2⟩
              case measure => simp [intOf]; omega
            · have h0' : (0 : Int) < (k : Int) := by omega
              obtain ⟨q, hq⟩ : ∃ q, l[k - 1]? = some q := ⟨_, List.getElem?_eq_getElem (by have := HL.out; omega)⟩
              have hp : prevO l k = some q := by
                obtain ⟨j, rfl⟩ : ∃ j, k = j + 1 := ⟨k - 1, by omega⟩
                exact hq
              have hq2 : (l.map txt)[k - 1]? = some (txt q) := by rw [List.getElem?_map, hq]; rfl
              obtain ⟨p2, o2, hiy, hcy, hb2, -⟩ := row_str (h := HR.out) hq2
              have hk1 : ((k - 1 : Nat) : Int) = (k : Int) - 1 := by omega
              rw [hk1] at hiy
              cases hge : geS q x with
              | true =>
                have HE : Hid (riseB geS l = false) := hide (by rw [HB.out, ← HT.out, HS.out, hnm, hp]; simp [hge])
                have hg : Op.bytesLess q x = false := by simpa [geS] using hge
                clear hx hx2 hnm hq hq2 hp hge
                go_wp2_with fail
                refine (c_rname0 (txt x) w hsx).mono ?_
                rintro e w5 ⟨rfl, rfl⟩
                rw [byt_txt, HN.out]
                go_wp2_with fail
                go_ret
                exact ⟨by rw [HE.out]; rfl, rfl⟩
              | false =>
                have HT2 : Hid (rises geS (prevO l (k + 1)) (l.drop (k + 1)) = rises geS none l) := hide (by rw [← HT.out, HS.out, hnm, hp]; simp [hge])
                have hg : Op.bytesLess q x = true := by simpa [geS] using hge
                clear hx hx2 hnm hq hq2 hp hge
                go_wp2_with fail
                refine (c_rname0 (txt x) w hsx).mono ?_
                rintro e w5 ⟨rfl, rfl⟩
                rw [byt_txt, HN.out]
                go_wp2_with fail
                go_round
                case rel => exact ⟨k + 1, by omega, by simp, HT2⟩
                case measure => simp [intOf]; omega
        · obtain rfl : k = n := by omega
          have HE : Hid (riseB geS l = true) := hide (by rw [HB.out, ← HT.out, List.drop_eq_nil_of_le (Nat.le_of_eq HL.out)]; simp [rises])
          go_wp2_with fail
          go_ret
          exact ⟨by rw [HE.out]; rfl, rfl⟩
end Go.Proofs.YtckcadhjpjjmjaaDoor
