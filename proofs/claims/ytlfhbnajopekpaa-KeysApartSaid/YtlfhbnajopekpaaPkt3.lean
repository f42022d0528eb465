/- The walks of layer 10: a reader's numbers and caveats. No condition. -/
import Derived.Test.YtlfhbnajopekpaaPkt2
namespace Go.Proofs.Ytlfhbnajopekpaa
open Go.RowKit

def Numbered (w : World) (g : Nat) (o : Option (Nat × List Fld)) (e : Ending) (w' : World) : Prop :=
  ∃ n : Nat, e = .returned (.int .u64 (n : Int)) ∧ n < 18446744073709551616 ∧ (∀ x r, o = some (x, r) → n = x) ∧ Only g w w' ∧ RdAt w' g (o.map (·.2))
theorem pnum_none {k : UInt8} {s : Option (List Fld)} (h : s.bind (ptake k) = none) : s.bind (pnum k) = none := by
  cases s with
  | none => rfl
  | some l =>
    simp only [Option.bind_some] at h ⊢
    simp [pnum, h]
theorem pnum_some {k : UInt8} {s : Option (List Fld)} {x : ByteArray} {r : List Fld} (h : s.bind (ptake k) = some (x, r)) :
    s.bind (pnum k) = if (vget (byt x)).2 = 0 ∨ (vget (byt x)).2 ≠ x.size then none else some ((vget (byt x)).1, r) := by
  cases s with
  | none => cases h
  | some l =>
    simp only [Option.bind_some] at h ⊢
    simp [pnum, h]
theorem RdAt.bad {w : World} {g : Nat} {A : Option Addr} {n c : Nat} {l : List Fld} {b : Bool} (hg : w.heap[g]? = some (.cells #[.slice A n c, .bool b] 123)) (hr : kFld.Row (· < g) w A n c l) : RdAt (w.setCell ⟨g, 1, none⟩ (.bool true)) g none :=
  ⟨A, n, c, l, heap_setCell_at hg _, hr.keep fun k hk _ => Below.heap_setCell _ _ _ _ (by show k ≠ g; omega), fun r h => by cases h⟩
theorem RdAt.good {w : World} {g : Nat} {A : Option Addr} {n c : Nat} {l : List Fld} {b : Bool} (hg : w.heap[g]? = some (.cells #[.slice A n c, .bool b] 123)) (hr : kFld.Row (· < g) w A n c l) : RdAt (w.setCell ⟨g, 1, none⟩ (.bool false)) g (some l) :=
  ⟨A, n, c, l, heap_setCell_at hg _, hr.keep fun k hk _ => Below.heap_setCell _ _ _ _ (by show k ≠ g; omega), fun r h => by cases h; rfl⟩

set_option maxRecDepth 100000 in
set_option maxHeartbeats 400000 in
theorem c_rnumber (w : World) (g : Nat) (k : UInt8) (s : Option (List Fld)) (i : Int) (hi : i = (k.toNat : Int)) (h : RdAt w g s) :
    Calls Try.prog 64 #[.pointer (some ⟨g, 0, none⟩), .int .u8 i] w (Numbered w g (s.bind (pnum k))) := by
  subst hi
  have H := hide h
  clear h
  go_enter Try.func64, Try.ntmps64
  go_wp2_with fail
  refine (c_rtake w g k s _ rfl H.out).mono ?_
  rintro e w1 ⟨v, rfl, hv, hx, h1, h2⟩
  have HV := hide hv
  have HX := hide hx
  have H1 := hide h1
  have H2 := hide h2
  clear hv hx h1 h2
  go_wp2_with (refine at_tobytes (P := Try.prog) 9 60 v rfl Try.underlying9 Try.underlying60 Try.underlying5 HV.out _ rfl ?_)
  intro c w2 hr b2 hl2
  have HR2 := hide hr
  have HB2 := hide b2
  obtain ⟨A, n, cc, l, hg, hrow, hl⟩ := (H2.out).below b2
  have HG := hide hg
  have HROW := hide hrow
  have HL := hide hl
  have hc0 : w2.cell? ⟨g, 0, none⟩ = some (.slice A n cc) := (cell_of_row w2 _ _ _ _ _ hg).trans rfl
  have hc1 : w2.cell? ⟨g, 1, none⟩ = some (.bool ((s.bind (ptake k)).map (·.2)).isNone) := (cell_of_row w2 _ _ _ _ _ hg).trans rfl
  have hfz : ∀ j, w2.frozen? ⟨g, j, none⟩ = false := fun j => frozen_of_row w2 _ _ _ _ hg
  have hO : Hid (Only g w w2) := hide (H1.out.trans (Only.of b2 (Nat.le_refl _)))
  clear hr b2 hl2 hg hrow hl
  go_wp2_with fail
  refine (c_vget _ _ c _ _ _ HR2.out).mono ?_
  rintro e w3 ⟨rfl, rfl⟩
  obtain ⟨nv, hnv⟩ : ∃ nv, nv = (vget (byt v)).1 := ⟨_, rfl⟩
  obtain ⟨kv, hkv⟩ : ∃ kv, kv = (vget (byt v)).2 := ⟨_, rfl⟩
  have hn64 : nv < 18446744073709551616 := by rw [hnv]; exact vget_lt _
  have hk10 : kv ≤ 10 := by rw [hkv]; exact (vget_le _).2
  rw [← hnv, ← hkv]
  have HNV := hide hnv
  have HKV := hide hkv
  clear hnv hkv
  have hsz : v.size ≤ 9223372036854775807 := HV.out
  cases ho : s.bind (ptake k) with
  | none =>
    have HP := hide (pnum_none ho)
    rw [ho] at hc1
    clear ho
    go_wp2_with fail
    go_ret
    refine ⟨nv, rfl, hn64, fun x r h => ?_, hO.out.set 1 _, ?_⟩
    · rw [HP.out] at h; cases h
    · rw [HP.out]
      exact RdAt.bad HG.out HROW.out
  | some xr =>
    obtain ⟨x, r⟩ := xr
    obtain rfl : v = x := HX.out x r ho
    have HLR := hide (HL.out r (by rw [ho]; rfl))
    have HP := hide (pnum_some ho)
    rw [ho] at hc1
    clear ho
    by_cases hb : kv = 0 ∨ kv ≠ v.size
    · have HP' : Hid (s.bind (pnum k) = none) := hide (by rw [HP.out, ← HKV.out, if_pos hb])
      have hRB : Hid (RdAt (w2.setCell ⟨g, 1, none⟩ (.bool true)) g none) := hide (RdAt.bad HG.out HROW.out)
      have hd : ((kv : Int) == 0) = true ∨ ((kv : Int) == 0) = false ∧ ((kv : Int) != (v.size : Int)) = true := by
        rcases Nat.eq_zero_or_pos kv with h | h
        · exact .inl (by simp [h])
        · refine .inr ⟨by simp; omega, ?_⟩
          rcases hb with hb | hb
          · omega
          · simp; omega
      clear hb
      rcases hd with hd | ⟨hd, hd2⟩
      · go_wp2_with fail
        go_ret
        refine ⟨nv, rfl, hn64, fun x r h => ?_, hO.out.set 1 _, ?_⟩
        · rw [HP'.out] at h; cases h
        · rw [HP'.out]; exact hRB.out
      · go_wp2_with fail
        go_ret
        refine ⟨nv, rfl, hn64, fun x r h => ?_, hO.out.set 1 _, ?_⟩
        · rw [HP'.out] at h; cases h
        · rw [HP'.out]; exact hRB.out
    · have HP' : Hid (s.bind (pnum k) = some (nv, r)) := hide (by rw [HP.out, ← HKV.out, ← HNV.out, if_neg hb])
      have hRB : Hid (RdAt (w2.setCell ⟨g, 1, none⟩ (.bool false)) g (some r)) := hide (by rw [← HLR.out]; exact RdAt.good HG.out HROW.out)
      have hd : ((kv : Int) == 0) = false := by simp; omega
      have hd2 : ((kv : Int) != (v.size : Int)) = false := by simp; omega
      clear hb
      go_wp2_with fail
      go_ret
      refine ⟨nv, rfl, hn64, fun x r' h => ?_, hO.out.set 1 _, ?_⟩
      · rw [HP'.out] at h
        cases h
        rfl
      · rw [HP'.out]; exact hRB.out
end Go.Proofs.Ytlfhbnajopekpaa
