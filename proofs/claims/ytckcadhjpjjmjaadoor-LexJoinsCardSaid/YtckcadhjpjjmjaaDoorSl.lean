/- Words for parts of rows: what a slice of one is. No condition. -/
import Derived.Test.YtckcadhjpjjmjaaDoorRepB
namespace Go.Proofs.YtckcadhjpjjmjaaDoor
open Go.RowKit
section
variable {P : Program} {α : Type} {d : Kd α} {ok : Nat → Prop} {w : World} {A : Option Addr} {n c : Nat} {xs : List α} {T E : TypeId}
theorem elem_of (hT : P.underlying T = some (.slice E)) : P.underlying T = some (.slice (P.elem T)) := by
  have : P.elem T = E := by simp [Program.elem, hT]
  rw [this]; exact hT
theorem size_run (hE : (P.info? E).map (·.size) = some d.sz) (wx : World) : (sizeOf E).run P wx = .ok d.sz wx := by
  cases hq : P.info? E with
  | none => simp [hq] at hE
  | some i => simp [hq] at hE; simp [sizeOf, typeInfo, hq, hE]
theorem Kd.Row.from (h : d.Row ok w A n c xs) (hT : P.underlying T = some (.slice E)) (hE : (P.info? E).map (·.size) = some d.sz) {k : Nat} (hk : k ≤ n) (kd : IntKind) (i : Int) (hi : i = k) :
    ∃ B, (∀ wx : World, (Instr.sliceAt T (.slice A n c) (some (.int kd i)) none none).run P wx = .ok (.slice B (n - k) (c - k)) wx) ∧ d.Row ok w B (n - k) (c - k) (xs.drop k) := by
  refine ⟨_, fun wx => ?_, h.drop hk⟩
  subst hi
  have e : P.elem T = E := by simp [Program.elem, hT]
  rw [run_sliceAt_slice _ _ _ _ _ _ (elem_of hT), run_slice_l wx T A n c (elem_of hT) kd k (by omega) (by omega), e, size_run hE]
  simp [Result.andThen, sliced]
theorem Kd.Row.upto (h : d.Row ok w A n c xs) (hT : P.underlying T = some (.slice E)) (hE : (P.info? E).map (·.size) = some d.sz) {k : Nat} (hk : k ≤ n) (kd : IntKind) (i : Int) (hi : i = k) :
    (∀ wx : World, (Instr.sliceAt T (.slice A n c) none (some (.int kd i)) none).run P wx = .ok (.slice A k c) wx) ∧ d.Row ok w A k c (xs.take k) := by
  refine ⟨fun wx => ?_, h.take hk⟩
  subst hi
  have e : P.elem T = E := by simp [Program.elem, hT]
  have hc := h.2.1
  rw [run_sliceAt_slice _ _ _ _ _ _ (elem_of hT), run_slice_h wx T A n c (elem_of hT) kd k (by omega) (by omega), e, size_run hE]
  simp [Result.andThen, sliced, Addr.add]
/-- []byte(text), where the walk stands at it. -/
theorem at_tobytes {ops : Array Oper} {rest : List Oper} {a : Act} {Q : Exit → Act → World → Prop} {dst : Option Tmp} {ty : TypeId} {pos : String} {after : Array Edge} {x : Operand} (S D : TypeId) (s : ByteArray) (hx : a.eval x = .string s)
    (hS : P.underlying S = some .string) (hD : P.underlying D = some (.slice E)) (hE : P.underlying E = some (.int .u8)) (hs : s.size ≤ 9223372036854775807) (H : Nat) (hH : w.heap.size = H)
    (k : ∀ c w', kU8.Row (fun k => k = H) w' (some ⟨H, 0, none⟩) s.size c (byt s) → Below H w w' → H < w'.heap.size → wpList P ops Q rest (a.put dst (.slice (some ⟨H, 0, none⟩) s.size c)) w') :
    wpList P ops Q (⟨dst, .convert S D x, ty, pos, after, none⟩ :: rest) a w :=
  wpList_tobytes rfl S D x rfl s hx hS hD hE hs H hH k
end
end Go.Proofs.YtckcadhjpjjmjaaDoor
