/- The walks of layer 23: keys purged. No condition. -/
import Derived.Test.YtlfhbnajopekpaaKey4
namespace Go.Proofs.Ytlfhbnajopekpaa
open Go.RowKit
open Go.Maps (Keyed)
attribute [local go_sem ↓] ld32 ld35
attribute [local go_sem] run_ldAgg run_storeAgg agg_alloc_at agg_alloc_past agg_drew agg_setCell row_alloc_at row_alloc_past row_drew setRow_alloc_at setRow_alloc_past setRow_drew agg_setRow_at agg_setRow_far cell_setRow_at cell_setRow_far row_setRow_far size_setRow tgC_size tgC_one tgC_part tgC_splice tgC_splice_any zero_tg tgC_ne keyC_size keyC_g0 keyC_g33 keyC_g34 keyC_0 keyC_33 keyC_34 keyC_part keyC_tag keyC_splice0 keyC_set33 keyC_set34 zero_key keyC_all keyC_ne
def KRel (D : DataW Value) (F : Nat → Option Ky) : Prop :=
  ∀ k, k < 18446744073709551616 → (F k = none → Maps.has D (lu k) = false) ∧ ∀ x, F k = some x → Maps.has D (lu k) = true ∧ ∀ z, D.atKey (lu k) z = .held (kyV x)
section
variable {D : DataW Value} {F F' : Nat → Option Ky}
theorem KRel.congr (h : KRel D F) (e : ∀ j, j < 18446744073709551616 → F' j = F j) : KRel D F' := fun k hk => by
  rw [e k hk]
  exact h k hk
theorem KRel.del (h : KRel D F) (k : Nat) : KRel (D.del (lu k)) (fun j => if j = k then none else F j) := fun j hj => by
  dsimp only
  by_cases e : j = k
  · have hF : (if j = k then none else F j) = none := if_pos e
    rw [hF]
    subst e
    exact ⟨fun _ => Maps.has_del_same, fun x hx => (by cases hx)⟩
  · have hne : lu j ≠ lu k := fun h => e (lu_inj h)
    rw [if_neg e, Maps.has_del_other hne]
    refine ⟨(h j hj).1, fun x hx => ⟨((h j hj).2 x hx).1, fun z => ?_⟩⟩
    rw [Maps.atKey_del_other hne]
    exact ((h j hj).2 x hx).2 z
end
theorem same_ne {j k : Nat} (h : ¬ j = k) : (lu j).sameKey (lu k) = false := Maps.sameKey_ne fun e => h (lu_inj e)
theorem same_self (k : Nat) : (lu k).sameKey (lu k) = true := WideAt.sameKey_self (lu_key k)
/-- The keys, where those that are still to come are as they were. -/
def pg (F : Nat → Option Ky) (clock : Nat) (left : Lit → Bool) (j : Nat) : Option Ky := if left (lu j) then F j else (F j).filter (fun x => x.live clock)
theorem pg_start {D : DataW Value} {F : Nat → Option Ky} (h : KRel D F) (clock : Nat) : KRel D (pg F clock (Maps.has D)) := h.congr fun j hj => by
  unfold pg
  split
  · rfl
  · rename_i hn
    cases hF : F j with
    | none => rfl
    | some x => exact absurd ((h j hj).2 x hF).1 hn
theorem pg_end {D : DataW Value} {F : Nat → Option Ky} {clock : Nat} {left : Lit → Bool} (h : KRel D (pg F clock left)) (hl : ∀ kl, left kl = false) : KRel D (fun j => (F j).filter fun x => x.live clock) := h.congr fun j _ => by
  unfold pg
  rw [hl, if_neg (by simp)]
theorem pg_live {D : DataW Value} {F : Nat → Option Ky} {clock k : Nat} {left : Lit → Bool} {x : Ky} (h : KRel D (pg F clock left)) (hF : F k = some x) (hx : x.live clock = true) : KRel D (pg F clock fun z => left z && !z.sameKey (lu k)) := h.congr fun j _ => by
  unfold pg
  dsimp only
  by_cases e : j = k
  · subst e
    simp [same_self, hF, Option.filter, hx]
  · simp [same_ne e]
theorem pg_dead {D : DataW Value} {F : Nat → Option Ky} {clock k : Nat} {left : Lit → Bool} {x : Ky} (h : KRel D (pg F clock left)) (hF : F k = some x) (hx : x.live clock = false) : KRel (D.del (lu k)) (pg F clock fun z => left z && !z.sameKey (lu k)) := (h.del k).congr fun j _ => by
  unfold pg
  dsimp only
  by_cases e : j = k
  · subst e
    simp [same_self, hF, Option.filter, hx]
  · simp [same_ne e, e]
theorem below_grown {w w' : World} (h : Below w.heap.size w w') : w.grownBy w' none := ⟨h.os, h.tape, h.output, h.size, fun i hi _ => h.block i hi⟩
theorem But.of_grown {g b r : Nat} {w0 w w' : World} (h : But g b w0 w) (hg : w.grownBy w' (some r)) (hr : w0.heap.size ≤ r) : But g b w0 w' :=
  ⟨hg.os.trans h.os, hg.tape.trans h.tape, hg.output.trans h.output, Nat.le_trans h.size hg.size, fun i hi h1 h2 => (hg.block i (Nat.lt_of_lt_of_le hi h.size) (fun e => by have := Option.some.inj e; omega)).trans (h.block i hi h1 h2)⟩
abbrev U64 := {k : Nat // k < 18446744073709551616}
set_option maxRecDepth 100000 in
set_option maxHeartbeats 600000 in
theorem c_kpurge {S : Ks} {g b : Nat} (clock : Nat) (w : World) (h : KeysAt w g b S) (hs : S.s < 1099511627776) : Calls Try.prog 24 #[.pointer (some ⟨g, 0, none⟩), .int .u64 (clock : Int)] w fun e w' =>
    ∃ s' : Nat, e = .returned (.int .i64 ((S.s : Int) - (s' : Int))) ∧ s' ≤ S.s ∧ KeysAt w' g b ⟨S.most, S.last, fun j => (S.F j).filter fun x => x.live clock, s'⟩ ∧ But g b w w' := by
  have hgs := (Array.getElem?_eq_some_iff.1 h.1).1
  have hc2 := h.cells.2.2.1
  have hgb := h.ne
  obtain ⟨D, hown, hsz, hrel⟩ := h.2
  have HR0 := hide (pg_start (show KRel D S.F from hrel) clock)
  have HG0 := hide h.1
  have HSZ := hide hsz
  have HSI : Hid ((S.s : Int) < 1099511627776) := hide (by omega)
  have hbs := hown.lt
  clear h hrel
  go_enter Try.func24, Try.ntmps24
  go_wp2_with (at_range; go_must (refine wpList_range_own _ rfl _ 107 rfl 39 111 klaw Try.underlying107 RV b S.s D rfl hown ?_; intro w0 hrg0 hg0 hs0))
  go_frame
  have hg0' := (hg0.block g hgs (by simp)).trans HG0.out
  have HB0 : Hid (But g b w w0) := hide ⟨hg0.os, hg0.tape, hg0.output, hg0.size, fun i hi _ _ => hg0.block i hi (by simp)⟩
  clear hc2 hg0
  go_loopw [5] (fun v wr => ∃ (left : Lit → Bool) (cnt s1 : Nat) (D1 : DataW Value), v = .int .i64 ((S.s : Int) - (s1 : Int)) ∧ wr.ranges Try.prog 39 RV b w.heap.size S.s D1 left cnt ∧ Hid (Maps.size D1 = s1) ∧ s1 ≤ S.s ∧ Hid (KRel D1 (pg S.F clock left)) ∧
    Hid (wr.heap[g]? = some (.cells #[.int .i64 (S.most : Int), .int .u64 (S.last : Int), .map (some b)] 109)) ∧ Hid (But g b w wr)) (fun _ wr => wr.rangeLeft b w.heap.size)
  case atStart => exact ⟨_, _, S.s, D, by simp, hrg0, HSZ, Nat.le_refl _, HR0, hide hg0', HB0⟩
  case round =>
    obtain ⟨left, cnt, s1, D1, rfl, hrg, HSZ1, hs1, HR, HG, HB⟩ := hrel
    go_wp2_with (at_next; go_must (refine wpList_next_ranges _ rfl _ rfl 39 klaw RV (fun k : U64 => .int .u64 (k.1 : Int)) (fun v : Value => v) ?_ ?_ b w.heap.size S.s D1 left cnt rfl hrg ?_ ?_))
    · intro key kl hkey
      obtain ⟨n, rfl, -, hw⟩ := Maps.keyOf_int_inv Try.underlying39 hkey
      have h' : 0 ≤ n ∧ n < 18446744073709551616 := by
        simp [Lit.wf, IntKind.min, IntKind.max, IntKind.signed, IntKind.bits] at hw
        omega
      exact ⟨⟨n.toNat, by omega⟩, by show Value.int .u64 n = .int .u64 ((n.toNat : Nat) : Int); rw [Int.toNat_of_nonneg h'.1]⟩
    · exact fun v y _ => ⟨v, rfl⟩
    · intro _ hl
      have HRE := hide (pg_end HR.out hl)
      have HKM : Hid (KMap wr b (fun j => (S.F j).filter fun x => x.live clock) s1) := hide ⟨D1, HSZ1.out ▸ tight hrg.owns, HSZ1.out, HRE.out⟩
      clear hrg hs
      go_wp2_with fail
      go_ret
      exact ⟨s1, rfl, hs1, ⟨HG.out, HKM.out⟩, HB.out⟩
    · intro k hk c kl y1 y2 w1 cnt1 hkey hlk hv hv2 hat hrg1 hlt hg1 hs1' hen
      obtain rfl : lu k = kl := Option.some.inj ((kkey hk).symm.trans hkey)
      have hpk : pg S.F clock left k = S.F k := if_pos hlk
      obtain ⟨x, hF⟩ : ∃ x, S.F k = some x := by
        cases hF : S.F k with
        | some x => exact ⟨x, rfl⟩
        | none =>
          have h1 := (HR.out k hk).1 (hpk.trans hF)
          rw [Maps.has_true_of_atKey hat] at h1
          cases h1
      have hc : c = kyV x := by
        have h1 := ((HR.out k hk).2 x (hpk.trans hF)).2 .nil
        rw [hat] at h1
        exact DataW.held.inj (hv.trans h1)
      have hhas : Maps.has D1 (lu k) = true := ((HR.out k hk).2 x (hpk.trans hF)).1
      subst hc
      have HF := hide hF
      have HHAS := hide hhas
      have HKK := hide hkey
      clear hkey hv hv2 hat hpk hF hhas hs
      have hrw := hrg1.lt
      have hwr := HB.out.size
      have hgs1 : g < wr.heap.size := by omega
      have HG1 := hide ((hg1.block g hgs1 (fun e => by have := Option.some.inj e; omega)).trans HG.out)
      have HB1 := hide (HB.out.of_grown hg1 (Nat.le_refl _))
      have hc2 : w1.cell? ⟨g, 2, none⟩ = some (.map (some b)) := (cell_of_row w1 _ _ _ _ _ HG1.out).trans rfl
      go_wp2_with fail
      refine (c_klive x clock _).mono ?_
      rintro e w3 ⟨rfl, b3⟩
      have hb3 := bnext (below1 w1 (.cells (kyC x) 111)) b3
      have hrg3 := hrg1.kept (below_grown hb3) (by simp) (by simp)
      have HB3 := hide (HB1.out.trans (But.ext hb3))
      have hgs1' : g < w1.heap.size := by omega
      have HG3 := hide ((hb3.block g hgs1').trans HG1.out)
      have hsd := Maps.size_del (k := lu k) (hrg.owns.tidy klaw)
      rw [HHAS.out, if_pos rfl, HSZ1.out] at hsd
      clear b3 hb3 hen hc2
      cases hxl : x.live clock with
      | true =>
        have HRL := hide (pg_live HR.out HF.out hxl)
        clear hxl
        go_wp2_with fail
        go_roundw
        case rel => exact ⟨_, cnt1, s1, D1, rfl, hrg3, HSZ1, hs1, HRL, HG3, HB3⟩
        case measure => rw [hrg3.left_eq, hrg.left_eq]; omega
      | false =>
        have HRL := hide (pg_dead HR.out HF.out hxl)
        obtain ⟨s2, rfl⟩ : ∃ s2, s1 = s2 + 1 := ⟨s1 - 1, by omega⟩
        have hsI := HSI.out
        have hsJ : (s2 : Int) + 1 ≤ (S.s : Int) := by omega
        have hc2 : w3.cell? ⟨g, 2, none⟩ = some (.map (some b)) := (cell_of_row w3 _ _ _ _ _ HG3.out).trans rfl
        have HSD := hide hsd
        clear hxl hsd
        go_wp2_with (at_delete; go_must (refine wpList_delete_ranges _ rfl _ _ 107 39 rfl 111 klaw Try.underlying107 RV b w.heap.size S.s D1 _ cnt1 rfl hrg3 _ (lu k) rfl HKK.out ?_; intro w4 cnt2 hrg4 hle hturn))
        rw [Maps.strike_twice] at hrg4
        have hgr := hturn.grown
        have hgs3 : g < w3.heap.size := (Array.getElem?_eq_some_iff.1 HG3.out).1
        have HG4 := hide ((hgr.block g hgs3 (fun e => hgb (Option.some.inj e))).trans HG3.out)
        have HB4 := hide (HB3.out.trans (But.grown hgr))
        clear hturn hgr hc2
        go_wp2_with fail
        go_roundw
        case rel => exact ⟨_, cnt2, s2, D1.del (lu k), by congr 1; omega, hrg4, hide (by have := HSD.out; omega), by omega, HRL, HG4, HB4⟩
        case measure => rw [hrg4.left_eq, hrg.left_eq]; omega
end Go.Proofs.Ytlfhbnajopekpaa
