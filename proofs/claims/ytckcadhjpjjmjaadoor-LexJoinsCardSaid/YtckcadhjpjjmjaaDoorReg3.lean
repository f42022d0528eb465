/- The test on a region's edges, in few steps. No condition. -/
import Derived.Test.YtckcadhjpjjmjaaDoorReg2
namespace Go.Proofs.YtckcadhjpjjmjaaDoor
open Go.RowKit
section
variable {ops : Array Oper}
def edgeB (ops : Array Oper) (i j : Nat) : Bool := ((ops[i]?).map fun o => o.after.toList.any fun e => Region.binds .any e && e.on == j).getD false
theorem edgeB_iff {i j : Nat} : edgeB ops i j = true ↔ ∃ o, ops[i]? = some o ∧ ∃ e ∈ o.after.toList, Region.binds .any e = true ∧ e.on = j := by
  unfold edgeB
  cases ho : ops[i]? with
  | none => simp
  | some o =>
    simp only [Option.map_some, Option.getD_some, List.any_eq_true, Bool.and_eq_true, beq_iff_eq]
    exact ⟨fun ⟨e, he, h⟩ => ⟨o, rfl, e, he, h⟩, fun ⟨o', ho', e, he, h⟩ => by cases ho'; exact ⟨e, he, h⟩⟩
theorem needs_one {i j : Nat} (h : edgeB ops i j = true) (f : Nat) : j ∈ needs ops (f + 1) i := by
  obtain ⟨o, ho, e, he, hb, rfl⟩ := edgeB_iff.1 h
  rw [needs, ho]
  simp only [List.mem_flatMap, List.mem_filter]
  exact ⟨e, ⟨he, hb⟩, by simp⟩
theorem needs_cons {i j f : Nat} (h : j ∈ needs ops (f + 1) i) : ∃ l, edgeB ops i l = true ∧ (j = l ∨ j ∈ needs ops f l) := by
  rw [needs] at h
  cases ho : ops[i]? with
  | none => rw [ho] at h; simp at h
  | some o =>
    rw [ho] at h
    simp only [List.mem_flatMap, List.mem_filter, List.mem_cons] at h
    obtain ⟨e, ⟨he, hb⟩, h⟩ := h
    exact ⟨e.on, edgeB_iff.2 ⟨o, ho, e, he, hb, rfl⟩, h⟩
theorem needs_step {i j l f : Nat} (h1 : edgeB ops i l = true) (h : j ∈ needs ops f l) : j ∈ needs ops (f + 1) i := by
  obtain ⟨o, ho, e, he, hb, rfl⟩ := edgeB_iff.1 h1
  rw [needs, ho]
  simp only [List.mem_flatMap, List.mem_filter, List.mem_cons]
  exact ⟨e, ⟨he, hb⟩, .inr h⟩
theorem needs_more : ∀ {f i j : Nat}, j ∈ needs ops f i → j ∈ needs ops (f + 1) i
  | 0, i, j, h => by simp [needs] at h
  | f + 1, i, j, h => by
    obtain ⟨l, h1, h2⟩ := needs_cons h
    rcases h2 with rfl | h2
    · exact needs_one h1 _
    · exact needs_step h1 (needs_more h2)
theorem needs_le {f g i j : Nat} (h : j ∈ needs ops f i) (hg : f ≤ g) : j ∈ needs ops g i := by
  obtain ⟨d, rfl⟩ : ∃ d, g = f + d := ⟨g - f, by omega⟩
  clear hg
  induction d with
  | zero => exact h
  | succ d ih => exact needs_more ih
theorem needs_snoc : ∀ {f i j l : Nat}, j ∈ needs ops f i → edgeB ops j l = true → l ∈ needs ops (f + 1) i
  | 0, i, j, l, h, _ => by simp [needs] at h
  | f + 1, i, j, l, h, he => by
    obtain ⟨k, h1, h2⟩ := needs_cons h
    rcases h2 with rfl | h2
    · exact needs_step h1 (needs_one he _)
    · exact needs_step h1 (needs_snoc h2 he)
/-- What lies ahead of operation i: from j on down. -/
def reach (ops : Array Oper) (i : Nat) : Nat → List Nat → List Nat
  | 0, acc => acc
  | j + 1, acc => reach ops i j (if acc.any (fun l => edgeB ops l j) then j :: acc else acc)
theorem reach_sound (hd : ∀ i j, edgeB ops i j = true → j < i) (i : Nat) : ∀ (k : Nat) (acc : List Nat), (∀ l ∈ acc, l = i ∨ (l < i ∧ l ∈ needs ops (i - l) i)) → ∀ l ∈ reach ops i k acc, l = i ∨ (l < i ∧ l ∈ needs ops (i - l) i)
  | 0, acc, h => h
  | j + 1, acc, h => by
    rw [reach]
    refine reach_sound hd i j _ ?_
    split
    · rename_i ha
      obtain ⟨l, hl, he⟩ := List.any_eq_true.1 ha
      intro q hq
      rcases List.mem_cons.1 hq with rfl | hq
      · have hjl := hd l q he
        rcases h l hl with rfl | ⟨h1, h2⟩
        · exact .inr ⟨hjl, needs_le (needs_one he 0) (by omega)⟩
        · exact .inr ⟨by omega, needs_le (needs_snoc h2 he) (by omega)⟩
      · exact h q hq
    · exact h
def regOk3 (ops : Array Oper) (n : Nat) : Bool :=
  (List.range ops.size).all (fun i => ((ops[i]?).map fun o => o.after.all fun e => !Region.binds .any e || decide (e.on < i)).getD true) &&
  (List.range ops.size).all (fun i => (List.range i).all fun j => match dstAt ops i, dstAt ops j with | some d, some e => d != e || decide (n ≤ i) | _, _ => true) &&
  (List.range ops.size).all (fun i => decide (i < n) || (fun l => (List.range i).all fun j => l.contains j) (reach ops i i [i])) && decide (n ≤ ops.size)
theorem regOk_of {n : Nat} (h : regOk3 ops n = true) : regOk ops n = true := by
  simp only [regOk3, Bool.and_eq_true] at h
  obtain ⟨⟨⟨h1, h2⟩, h3⟩, h4⟩ := h
  simp only [regOk, Bool.and_eq_true]
  refine ⟨⟨⟨h1, h2⟩, ?_⟩, h4⟩
  have hd : ∀ i j, edgeB ops i j = true → j < i := by
    intro i j he
    obtain ⟨o, ho, e, hm, hb, rfl⟩ := edgeB_iff.1 he
    have hi : i < ops.size := (Array.getElem?_eq_some_iff.1 ho).1
    have h' := List.all_eq_true.1 h1 i (by simpa using hi)
    rw [ho] at h'
    simp only [Option.map_some, Option.getD_some, Array.all_eq_true_iff_forall_mem, Bool.or_eq_true, decide_eq_true_eq] at h'
    rcases h' e (by simpa using hm) with h'' | h''
    · simp [hb] at h''
    · exact h''
  simp only [List.all_eq_true, List.mem_range, Bool.or_eq_true, decide_eq_true_eq] at h3 ⊢
  intro i hi
  rcases h3 i hi with h' | h'
  · exact .inl h'
  · refine .inr fun j hj => ?_
    have hm : j ∈ reach ops i i [i] := by simpa using h' j hj
    rcases reach_sound hd i i [i] (fun l hl => .inl (by simpa using hl)) j hm with rfl | ⟨-, hn⟩
    · omega
    · simpa using needs_le hn (show i - j ≤ ops.size by omega)
end
end Go.Proofs.YtckcadhjpjjmjaaDoor
