/- The walks of layer 10: a reader of fields. No condition. -/
import Derived.Test.YtlfhbnajopekpaaPkt1
namespace Go.Proofs.Ytlfhbnajopekpaa
open Go.RowKit

/-- Only block g may have turned of what there was. -/
def Only (g : Nat) (w w' : World) : Prop := w'.os = w.os ∧ w'.tape = w.tape ∧ w'.output = w.output ∧ w.heap.size ≤ w'.heap.size ∧ ∀ k, k < w.heap.size → k ≠ g → w'.heap[k]? = w.heap[k]?
theorem Only.of {g B : Nat} {w w' : World} (h : Below B w w') (hB : w.heap.size ≤ B) : Only g w w' := ⟨h.os, h.tape, h.output, h.size, fun k hk _ => h.block k (Nat.lt_of_lt_of_le hk hB)⟩
theorem Only.refl (g : Nat) (w : World) : Only g w w := ⟨rfl, rfl, rfl, Nat.le_refl _, fun _ _ _ => rfl⟩
theorem Only.trans {g : Nat} {a b c : World} (h : Only g a b) (k : Only g b c) : Only g a c :=
  ⟨k.1.trans h.1, k.2.1.trans h.2.1, k.2.2.1.trans h.2.2.1, Nat.le_trans h.2.2.2.1 k.2.2.2.1, fun i hi hg => (k.2.2.2.2 i (Nat.lt_of_lt_of_le hi h.2.2.2.1) hg).trans (h.2.2.2.2 i hi hg)⟩
theorem Only.below {g : Nat} {w w' : World} (h : Only g w w') (hg : g < w.heap.size) : Below g w w' := ⟨h.1, h.2.1, h.2.2.1, h.2.2.2.1, fun k hk => h.2.2.2.2 k (by omega) (by omega)⟩
theorem Only.set {g : Nat} {w w' : World} (h : Only g w w') (o : Nat) (v : Value) : Only g w (w'.setCell ⟨g, o, none⟩ v) :=
  ⟨h.1, h.2.1, h.2.2.1, by simpa using h.2.2.2.1, fun k hk hg => (Below.heap_setCell w' ⟨g, o, none⟩ v k hg).trans (h.2.2.2.2 k hk hg)⟩
theorem Only.alloc {g : Nat} {w w' : World} (h : Only g w w') (o : Obj) : Only g w (w'.alloc o) :=
  ⟨h.1, h.2.1, h.2.2.1, by simp; have := h.2.2.2.1; omega, fun k hk hg => (Below.heap_alloc w' o k (Nat.lt_of_lt_of_le hk h.2.2.2.1)).trans (h.2.2.2.2 k hk hg)⟩
theorem Only.size {g : Nat} {w w' : World} (h : Only g w w') : w.heap.size ≤ w'.heap.size := h.2.2.2.1

/-- A reader in block g: what is left; none: one wasn't as it should be. -/
def RdAt (w : World) (g : Nat) (s : Option (List Fld)) : Prop :=
  ∃ A n c l, w.heap[g]? = some (.cells #[.slice A n c, .bool s.isNone] 123) ∧ kFld.Row (· < g) w A n c l ∧ (∀ r, s = some r → l = r)
theorem RdAt.lt {w : World} {g : Nat} {s : Option (List Fld)} (h : RdAt w g s) : g < w.heap.size := by
  obtain ⟨A, n, c, l, h, _⟩ := h
  exact (Array.getElem?_eq_some_iff.1 h).1
theorem RdAt.keep {w w' : World} {g : Nat} {s : Option (List Fld)} (h : RdAt w g s) (hk : ∀ k, k ≤ g → w'.heap[k]? = w.heap[k]?) : RdAt w' g s := by
  obtain ⟨A, n, c, l, h1, h2, h3⟩ := h
  exact ⟨A, n, c, l, (hk g (Nat.le_refl _)).trans h1, h2.keep (fun k h _ => hk k (Nat.le_of_lt h)), h3⟩
theorem RdAt.below {w w' : World} {g : Nat} {s : Option (List Fld)} (h : RdAt w g s) (hb : Below w.heap.size w w') : RdAt w' g s := h.keep fun k hk => hb.block k (Nat.lt_of_le_of_lt hk h.lt)

def ptake (k : UInt8) : List Fld → Option (ByteArray × List Fld)
  | [] => none
  | f :: r => if f.kind = k then some (f.value, r) else none
def pnum (k : UInt8) (l : List Fld) : Option (Nat × List Fld) :=
  (ptake k l).bind fun x => if (vget (byt x.1)).2 = 0 ∨ (vget (byt x.1)).2 ≠ x.1.size then none else some ((vget (byt x.1)).1, x.2)
def pis (k : UInt8) (s : Option (List Fld)) : Bool := match s with | some (f :: _) => decide (f.kind = k) | _ => false

theorem kind_eq (a b : UInt8) : ((a.toNat : Int) == (b.toNat : Int)) = decide (a = b) := by
  rw [Bool.eq_iff_iff]
  simp only [beq_iff_eq, decide_eq_true_eq]
  constructor
  · intro h; exact UInt8.toNat_inj.1 (by omega)
  · rintro rfl; rfl
set_option maxRecDepth 100000 in
theorem c_ris (w : World) (g : Nat) (k : UInt8) (A : Option Addr) (n c : Nat) (l : List Fld) (b : Bool) (ok : Nat → Prop) (i : Int) (hi : i = (k.toNat : Int)) (hg : w.heap[g]? = some (.cells #[.slice A n c, .bool b] 123)) (hr : kFld.Row ok w A n c l) :
    Calls Try.prog 87 #[.pointer (some ⟨g, 0, none⟩), .int .u8 i] w fun e w' => e = .returned (.bool (pis k (some l))) ∧ w = w' := by
  subst hi
  have hc0 : w.cell? ⟨g, 0, none⟩ = some (.slice A n c) := (cell_of_row w _ _ _ _ _ hg).trans rfl
  have hlen := hr.1
  have hm : n ≤ 9223372036854775807 := Nat.le_trans hr.2.1 hr.2.2.1
  clear hg
  cases l with
  | nil =>
    obtain rfl : n = 0 := by simpa using hlen.symm
    clear hr hlen
    go_enter Try.func87, Try.ntmps87
    go_wp2
    go_ret
    exact ⟨rfl, rfl⟩
  | cons f r =>
    obtain ⟨bb, q, cs, hix, -, hbl, hK, hra⟩ := hr.index (P := Try.prog) Try.underlying118 (E := 117) fld_size (i := 0) (x := f) rfl
    have hKe := hK.1
    subst hKe
    have hc1 := hra 0 _ rfl
    simp only [Nat.add_zero] at hc1
    obtain ⟨m, rfl⟩ : ∃ m, n = m + 1 := ⟨r.length, by simpa using hlen.symm⟩
    have hix : ∀ wx : World, (Instr.indexAt 118 (.slice A (m + 1) c) (.int .i64 0)).run Try.prog wx = .ok (.pointer (some ⟨bb, q, none⟩)) wx := hix
    clear hr hlen hK hra
    go_enter Try.func87, Try.ntmps87
    go_wp2
    go_ret
    exact ⟨congrArg (fun b => Ending.returned (.bool b)) (kind_eq f.kind k), rfl⟩

/-- What a reader's step answers. -/
def Took (w : World) (g : Nat) (o : Option (ByteArray × List Fld)) (e : Ending) (w' : World) : Prop :=
  ∃ v : ByteArray, e = .returned (.string v) ∧ v.size ≤ maxLen ∧ (∀ x r, o = some (x, r) → v = x) ∧ Only g w w' ∧ RdAt w' g (o.map (·.2))
theorem heap_setCell_at {w : World} {g o : Nat} {C : Array Value} {t : TypeId} {fr : Nat × Nat} (h : w.heap[g]? = some (.cells C t fr)) (v : Value) : (w.setCell ⟨g, o, none⟩ v).heap[g]? = some (.cells (C.setIfInBounds o v) t fr) := by
  rw [setCell_eq_setRow w g o C t fr v h]
  exact setRow_heap w g C _ t fr h
set_option maxRecDepth 100000 in
theorem c_rtake (w : World) (g : Nat) (k : UInt8) (s : Option (List Fld)) (i : Int) (hi : i = (k.toNat : Int)) (h : RdAt w g s) :
    Calls Try.prog 65 #[.pointer (some ⟨g, 0, none⟩), .int .u8 i] w (Took w g (s.bind (ptake k))) := by
  subst hi
  have hlt := h.lt
  obtain ⟨A, n, c, l, hg, hr, hl⟩ := h
  have HG := hide hg
  have HR := hide hr
  have HL := hide hl
  have hc0 : w.cell? ⟨g, 0, none⟩ = some (.slice A n c) := (cell_of_row w _ _ _ _ _ hg).trans rfl
  have hc1 : w.cell? ⟨g, 1, none⟩ = some (.bool s.isNone) := (cell_of_row w _ _ _ _ _ hg).trans rfl
  have hfz : ∀ j, w.frozen? ⟨g, j, none⟩ = false := fun j => frozen_of_row w _ _ _ _ hg
  have hlen := hr.1
  clear hg hr hl
  cases hp : pis k (some l) with
  | false =>
    have HP : Hid (s.bind (ptake k) = none) := hide (by
      cases s with
      | none => rfl
      | some r =>
        have := HL.out r rfl
        subst this
        cases l with
        | nil => rfl
        | cons f r =>
          simp only [pis, decide_eq_false_iff_not] at hp
          simp [ptake, hp])
    rw [HP.out]
    have HPI := hide hp
    clear hp
    go_enter Try.func65, Try.ntmps65
    go_wp2_with fail
    refine (c_ris w g k A n c l _ _ _ rfl HG.out HR.out).mono ?_
    rintro e w1 ⟨rfl, rfl⟩
    rw [HPI.out]
    go_wp2_with fail
    go_ret
    refine ⟨_, rfl, by decide, (fun x r hx => by cases hx), (Only.refl g w).set 1 _, A, n, c, l, ?_, HR.out.keep (fun k' hk' _ => Below.heap_setCell _ _ _ _ (by show k' ≠ g; omega)), (fun r hr => by cases hr)⟩
    exact heap_setCell_at HG.out _
  | true =>
    obtain ⟨f, r, hlf, hfk⟩ : ∃ f r, l = f :: r ∧ f.kind = k := by
      cases l with
      | nil => cases hp
      | cons f r => exact ⟨f, r, rfl, by simpa [pis] using hp⟩
    subst hlf
    have HP : Hid (∀ x r', s.bind (ptake k) = some (x, r') → x = f.value ∧ r' = r) := hide (by
      intro x r' h
      cases s with
      | none => cases h
      | some l' =>
        have := HL.out l' rfl
        subst this
        simp only [Option.bind_some, ptake, if_pos hfk, Option.some.injEq, Prod.mk.injEq] at h
        exact ⟨h.1.symm, h.2.symm⟩)
    have HS : Hid (((s.bind (ptake k)).map (·.2)).isNone = s.isNone) := hide (by
      cases s with
      | none => rfl
      | some l' =>
        have := HL.out l' rfl
        subst this
        simp [ptake, if_pos hfk])
    have HPI := hide hp
    clear hp hfk
    obtain ⟨m, rfl⟩ : ∃ m, n = m + 1 := ⟨r.length, by simpa using hlen.symm⟩
    obtain ⟨bb, q, cs, hix, -, hbl, hK, hra⟩ := HR.out.index (P := Try.prog) Try.underlying118 (E := 117) fld_size (i := 0) (x := f) rfl
    have hKe := hK.1
    have HFV := hide hK.2
    subst hKe
    have hx1 := hra 1 _ rfl
    have hix : ∀ wx : World, (Instr.indexAt 118 (.slice A (m + 1) c) (.int .i64 0)).run Try.prog wx = .ok (.pointer (some ⟨bb, q, none⟩)) wx := hix
    obtain ⟨B, hs1, hB⟩ := HR.out.from (P := Try.prog) Try.underlying118 (E := 117) fld_size (k := 1) (by omega) .i64 1 rfl
    have HB := hide hB
    clear hK hra hB hlen
    go_enter Try.func65, Try.ntmps65
    go_wp2_with fail
    refine (c_ris w g k A (m + 1) c (f :: r) _ _ _ rfl HG.out HR.out).mono ?_
    rintro e w1 ⟨rfl, rfl⟩
    rw [HPI.out]
    go_wp2_with fail
    go_ret
    refine ⟨_, rfl, HFV.out, fun x r' hx => (HP.out x r' hx).1.symm, (Only.refl g w).set 0 _, B, m, c - 1, r, ?_, HB.out.keep (fun k' hk' _ => Below.heap_setCell _ _ _ _ (by show k' ≠ g; omega)), fun r' hr => ?_⟩
    · rw [HS.out]
      exact heap_setCell_at HG.out _
    · obtain ⟨⟨x, y⟩, h1, h2⟩ := Option.map_eq_some_iff.1 hr
      subst h2
      exact ((HP.out x y h1).2).symm
end Go.Proofs.Ytlfhbnajopekpaa
