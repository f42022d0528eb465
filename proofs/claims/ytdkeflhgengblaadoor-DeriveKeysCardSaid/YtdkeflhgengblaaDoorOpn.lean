/- Bytes and tags opened out of arguments. No condition. -/
import Derived.Test.YtdkeflhgengblaaDoorRow
import Derived.Test.YtdkeflhgengblaaDoorAgg
import Derived.Test.YtdkeflhgengblaaDoorFld
namespace Go.Proofs.YtdkeflhgengblaaDoor
open Go.ChangeShapes Go.WideShapes Go.ChangeAt Go.RowKit

theorem open_tag {H : Type} {enc : TypeId × Value → H} {w : World} {spare : Nat → Bool} {held : Bool} (n : Nat) (cs : List Value) (x : DataW H × List MemPlace) (h : DataW.trod enc Tryd.prog w 0 spare held n 29 cs = some x) :
    ∃ t : Tg, cs = (tgC t).toList := by
  obtain ⟨xs, m, rfl, -, hl, hx, hf⟩ := DataW.trod_array Tryd.underlying29 h
  have c32 : Tryd.prog.cellsOf 29 = 32 := by kernel_rfl
  have c1 : Tryd.prog.cellsOf 5 = 1 := by kernel_rfl
  rw [c32] at hl
  rw [c1] at hf
  have hb : ∀ i, i < 32 → ∃ b : UInt8, cs[i]? = some (bv b) := fun i hi => by
    have h1 := hf i hi
    rw [List.getElem?_eq_getElem (by omega)] at h1
    obtain ⟨k, e, -, hk⟩ := DataW.trod_int Tryd.underlying5 h1
    simp [Lit.wf, IntKind.min, IntKind.max, IntKind.signed, IntKind.bits] at hk
    obtain ⟨b, rfl⟩ : ∃ b : UInt8, (b.toNat : Int) = k := ⟨UInt8.ofNat k.toNat, by simp; omega⟩
    refine ⟨b, ?_⟩
    have := congrArg (·[0]?) e
    simpa [List.getElem?_take, List.getElem?_drop] using this
  obtain ⟨bs, hbl, hbs⟩ := list_of 32 hb
  refine ⟨⟨bs, hbl⟩, ?_⟩
  apply List.ext_getElem?
  intro i
  by_cases hi : i < 32
  · rw [hbs i _ (List.getElem?_eq_getElem (by omega))]
    simp [tgC, List.getElem?_eq_getElem (show i < bs.length by omega)]
  · rw [List.getElem?_eq_none (by omega), List.getElem?_eq_none (by simp [tgC]; omega)]
theorem u8_open {H : Type} {enc : TypeId × Value → H} {w : World} {spare : Nat → Bool} {held : Bool} (n : Nat) (cs : List Value) (x : DataW H × List MemPlace) (h : DataW.trod enc Tryd.prog w 0 spare held n 5 cs = some x) :
    ∃ y, kU8.K (· < w.heap.size) w y cs := by
  obtain ⟨k, e, -, hk⟩ := DataW.trod_int Tryd.underlying5 h
  simp [Lit.wf, IntKind.min, IntKind.max, IntKind.signed, IntKind.bits] at hk
  obtain ⟨b, rfl⟩ : ∃ b : UInt8, (b.toNat : Int) = k := ⟨UInt8.ofNat k.toNat, by simp; omega⟩
  exact ⟨b, e, trivial⟩
set_option maxRecDepth 100000 in
theorem okWide_tag {w : World} {r : Reach} {base : Nat} {v : Value} (h : Value.okWide Tryd.prog w r base 29 v) : ∃ cs, v = .agg cs := by
  simp only [Value.okWide, Tryd.underlying29] at h
  obtain ⟨cs, h1, _, _⟩ := h
  exact ⟨cs, h1⟩
end Go.Proofs.YtdkeflhgengblaaDoor
