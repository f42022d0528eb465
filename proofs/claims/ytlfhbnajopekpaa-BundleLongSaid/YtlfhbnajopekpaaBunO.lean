/- Bundles opened out of a statement's arguments. No condition. -/
import Derived.Test.YtlfhbnajopekpaaPktC
import Derived.Test.YtlfhbnajopekpaaBun4
namespace Go.Proofs.Ytlfhbnajopekpaa
open Go.ChangeShapes Go.WideShapes Go.ChangeAt Go.RowKit

theorem tok_open {H : Type} {enc : TypeId × Value → H} {w : World} {spare : Nat → Bool} {held : Bool} (n : Nat) (cs : List Value) (x : DataW H × List MemPlace) (h : DataW.trod enc Try.prog w 0 spare held n 59 cs = some x) :
    ∃ y, kTok.K (· < w.heap.size) w y cs := by
  obtain ⟨t, A, l, c, e, hr, hk, -⟩ := open_tok _ _ _ h
  exact ⟨t, A, l, c, e, hr, hk⟩
theorem open_bun {H : Type} {enc : TypeId × Value → H} {w : World} {spare : Nat → Bool} {held : Bool} (n : Nat) (cs : List Value) (x : DataW H × List MemPlace) (h : DataW.trod enc Try.prog w 0 spare held n 70 cs = some x) :
    ∃ (b : Bun) (A : Option Addr) (l c : Nat) (B : Option Addr) (m d : Nat), cs = (bunA b A l c B m d).toList ∧ kCav.Row (· < w.heap.size) w A l c b.root.cavs ∧ kTok.Row (· < w.heap.size) w B m d b.dis ∧ b.root.key < 18446744073709551616 := by
  obtain ⟨xs, m, rfl, -, hl, hx, hf⟩ := DataW.trod_struct Try.underlying70 h
  have c37 : Try.prog.cellsOf 70 = 37 := by kernel_rfl
  have c36 : Try.prog.cellsOf 59 = 36 := by kernel_rfl
  have c1 : Try.prog.cellsOf 68 = 1 := by kernel_rfl
  rw [c37] at hl
  have hxs : xs.length = 2 := hx
  have h0 : DataW.trod enc Try.prog w 0 spare held m 59 (List.take (Try.prog.cellsOf 59) (List.drop 0 cs)) = xs[0]? := hf 0 _ rfl
  have h1 : DataW.trod enc Try.prog w 0 spare held m 68 (List.take (Try.prog.cellsOf 68) (List.drop 36 cs)) = xs[1]? := hf 1 _ rfl
  rw [List.getElem?_eq_getElem (by omega)] at h0 h1
  rw [c36, List.drop_zero] at h0
  rw [c1] at h1
  obtain ⟨t, A, l, c, e0, hr, hk, -⟩ := open_tok _ _ _ h0
  obtain ⟨B, m', d, ds, e1, hs⟩ := trod_row (d := kTok) Try.underlying68 c36 (by decide) tok_open h1
  refine ⟨⟨t, ds⟩, A, l, c, B, m', d, ?_, hr, hs, hk⟩
  have hd : (cs.drop 36).length = 1 := by rw [List.length_drop, hl]
  have e2 : cs.drop 36 = [.slice B m' d] := (List.take_of_length_le (Nat.le_of_eq hd)).symm.trans e1
  rw [bunC_list]
  refine (List.take_append_drop 36 cs).symm.trans ?_
  rw [e2]
  exact congrArg (· ++ [Value.slice B m' d]) e0
end Go.Proofs.Ytlfhbnajopekpaa
