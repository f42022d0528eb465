/- What every tied row of the seat wants: the words of cube roots out of the row's condition; the arguments opened. No condition. -/
import Derived.Test.YtdkeflhgengblaaDoorRows
import Derived.Test.YtdkeflhgengblaaDoorRow
import Derived.Test.YtdkeflhgengblaaDoorDig4
import Derived.Test.YtdkeflhgengblaaDoorOpn
import Derived.ProofKit
import Derived.LaidMore
import Derived.OpenShut
import Derived.Stop.Joined
namespace Go.Proofs.YtdkeflhgengblaaDoor
open Go.ChangeShapes Go.WideShapes Go.ChangeAt Go.RowKit

theorem laidOutD : laidOutB Tryd.prog = true := by kernel_rfl
theorem ownKnobD : ownKnob Tryd.prog.godebug = none := by kernel_rfl
theorem gPrimes : Tryd.prog.globalNamed "chitty/word.primes" = some 0 := by kernel_rfl
theorem tPrimes : (Tryd.prog.globals[0]?).map (·.type) = some 174 := by kernel_rfl
abbrev laidD : List (String × DataW Unit) := [("chitty/word.primes", Rows.laid_chitty_word_primes)]
theorem door_met (os : Os) (args : Array Value) : laidMetH Tryd.prog laidD ((World.doorLaid Tryd.prog 400 os).forCall (fun _ _ => 0) ⟨#[], args, []⟩).memory :=
  laidMetH_of_parts3 (fuel := 8) (laidMet_of_run' 8 (by kernel_rfl) (by kernel_rfl)) (by kernel_rfl) (by kernel_rfl)
theorem primes_datum : (Rows.laid_chitty_word_primes : DataW Unit) = .agg (primesW.map fun p => .lit (.int .u32 (p.toNat : Int))) := by rfl
theorem primes_of {W : World} (h : laidMetH Tryd.prog laidD W) : PrimesAt W := by
  rw [MakeChecks.laidMetH_plain _ _ _ (by kernel_rfl)] at h
  obtain ⟨ps, ⟨g0, t0, cs0, f0, p0, q0, hg0, ht0, hv0, hd0, _, _⟩, _, _⟩ := h
  obtain rfl := Option.some.inj (gPrimes.symm.trans hg0)
  obtain rfl := Option.some.inj (tPrimes.symm.trans ht0)
  obtain ⟨xs, m1, rfl, hx1, hlen, hn, hel⟩ := DataW.trod_array Tryd.underlying174 hd0
  have c1 : Tryd.prog.cellsOf 155 = 1 := by kernel_rfl
  have hxe : xs.map (·.1) = primesW.map fun p => .lit (.int .u32 (p.toNat : Int)) := by
    have := congrArg Prod.fst hx1
    rw [primes_datum] at this
    exact (DataW.agg.inj this).symm
  have hcell : ∀ (i : Nat) (p : UInt32), primesW[i]? = some p → W.cell? ⟨0, i, none⟩ = some (wv p) := by
    intro i p hp
    have hi : i < 64 := by
      have := (List.getElem?_eq_some_iff.1 hp).1
      have : primesW.length = 64 := by decide
      omega
    have h1 := hel i hi
    rw [List.getElem?_eq_getElem (by omega), c1] at h1
    obtain ⟨k, e1, e2, -⟩ := DataW.trod_int Tryd.underlying155 h1
    have h3 := congrArg (·[i]?) hxe
    simp only [List.getElem?_map, hp, List.getElem?_eq_getElem (show i < xs.length by omega), Option.map_some, e2, Option.some.injEq, DataW.lit.injEq, Lit.int.injEq, true_and] at h3
    have h4 := World.var?_cell gPrimes hv0 i
    rw [h4]
    have h5 := congrArg (·[0]?) e1
    simp only [Nat.mul_one, List.getElem?_take, List.getElem?_drop, Nat.add_zero] at h5
    rw [if_pos (by decide)] at h5
    rw [← Array.getElem?_toList, h5, h3]
    rfl
  refine ⟨?_, hcell⟩
  exact World.block_lt_of_cell? W ⟨0, 0, none⟩ (hcell 0 _ rfl)
theorem bytes_open {H : Type} {enc : TypeId × Value → H} {w : World} {spare : Nat → Bool} {held : Bool} (n : Nat) (cs : List Value) (x : DataW H × List MemPlace) (h : DataW.trod enc Tryd.prog w 0 spare held n 22 cs = some x) :
    ∃ y, kRow8.K (· < w.heap.size) w y cs := by
  obtain ⟨A, n, c, xs, rfl, hr⟩ := trod_row (d := kU8) Tryd.underlying22 (by kernel_rfl) (by decide) u8_open h
  exact ⟨xs, A, n, c, rfl, hr⟩
end Go.Proofs.YtdkeflhgengblaaDoor
