/- The statement PacketTells, for every input. No condition. -/
import Derived.Test.YtlfhbnajopekpaaRows
import Derived.Test.YtlfhbnajopekpaaRow
import Derived.Test.YtlfhbnajopekpaaPktS
import Derived.Test.YtlfhbnajopekpaaPk13
import Derived.Test.YtlfhbnajopekpaaPk14
import Derived.Test.YtlfhbnajopekpaaPk15
namespace Go.Proofs.Ytlfhbnajopekpaa
open Go.ChangeShapes Go.WideShapes Go.ChangeAt Go.RowKit

theorem c_tells (t u : Tok) (A B C : Option Addr) (n c m d k e : Nat) (xs : List UInt8) (ok : Nat → Prop) (w : World) (hR : kCav.Row ok w A n c t.cavs) (hS : kCav.Row ok w B m d u.cavs) (hX : kU8.Row ok w C k e xs) (ht : t.ok)
    (hti : t.id.size ≤ 140737488355328) (htf : ∀ c ∈ t.cavs, c.fits) (hui : u.id.size ≤ 140737488355328) (huf : ∀ c ∈ u.cavs, c.fits) :
    Calls Try.prog 8 #[tokV t A n c, tokV u B m d, .slice C k e] w fun e w' => e = .returned (.bool true) ∧ Below w.heap.size w w' := by
  cases hc : checkT t with
  | true =>
    cases hs : (pdec xs).isSome with
    | true => exact c_tells_tt t u A B C n c m d k e xs ok w hR hS hX ht hti htf hui huf hc hs
    | false => exact c_tells_tf t u A B C n c m d k e xs ok w hR hS hX ht hti htf hui huf hc hs
  | false =>
    cases hs : (pdec xs).isSome with
    | true => exact c_tells_ft t u A B C n c m d k e xs ok w hR hS hX ht hti htf hui huf hc hs
    | false => exact c_tells_ff t u A B C n c m d k e xs ok w hR hS hX ht hti htf hui huf hc hs
set_option maxRecDepth 100000 in
set_option maxHeartbeats 2000000 in
theorem packetTells_lifted (os : Os) (started : os.Started) (H : Type) (enc : TypeId × Value → H) :
    ReturnsInHanded {} Try.checked os 8 .any (Rows.packetTellsSpec.pre6 enc Try.prog Try.f8 Rows.packetTellsRow.domain false) (Rows.packetTellsSpec.post enc Try.prog Try.f8 false true false false) := by
  refine returnsInHanded_of_change_sized (C := Try.checked) ownKnob1 started (by kernel_rfl) Try.func8
    (ChangeSpec.witness6 (enc := enc) (C := Try.checked) false ⟨#[], #[.agg #[.int .u64 0, .string ByteArray.empty, .slice none 0 0, .bool false, .int .u8 0, .int .u8 0, .int .u8 0, .int .u8 0, .int .u8 0, .int .u8 0, .int .u8 0, .int .u8 0, .int .u8 0, .int .u8 0, .int .u8 0, .int .u8 0, .int .u8 0, .int .u8 0, .int .u8 0, .int .u8 0, .int .u8 0, .int .u8 0, .int .u8 0, .int .u8 0, .int .u8 0, .int .u8 0, .int .u8 0, .int .u8 0, .int .u8 0, .int .u8 0, .int .u8 0, .int .u8 0, .int .u8 0, .int .u8 0, .int .u8 0, .int .u8 0], .agg #[.int .u64 0, .string ByteArray.empty, .slice none 0 0, .bool false, .int .u8 0, .int .u8 0, .int .u8 0, .int .u8 0, .int .u8 0, .int .u8 0, .int .u8 0, .int .u8 0, .int .u8 0, .int .u8 0, .int .u8 0, .int .u8 0, .int .u8 0, .int .u8 0, .int .u8 0, .int .u8 0, .int .u8 0, .int .u8 0, .int .u8 0, .int .u8 0, .int .u8 0, .int .u8 0, .int .u8 0, .int .u8 0, .int .u8 0, .int .u8 0, .int .u8 0, .int .u8 0, .int .u8 0, .int .u8 0, .int .u8 0, .int .u8 0], .slice none 0 0], []⟩ 8 (by kernel_rfl) (by kernel_rfl) (by kernel_rfl) (by kernel_rfl)) ?_
  intro W base args ds gs before hval0 hW hcnd hwt _
  have hval : ∀ (j : Nat) t v, Try.f8.params[j]? = some t → args[j]? = some v → Value.okWide Try.prog W .any base t v := hval0
  have hW' := hW
  obtain ⟨p, q, hA0, hV, rfl, hfz, hnd⟩ := hW
  have hA : DataW.TrodAll enc Try.prog W 0 (fun _ => true) true Try.f8.params.toList args.toList ds p := hA0
  have hw2 : (DataW.weightsEach Try.prog (Try.f8.params.toList ++ Rows.packetTellsSpec.plain.varTypes Try.prog) (ds ++ gs)).all (· ≤ reachBytes) = true := hwt
  rw [Try.params8] at hA hval hw2
  obtain ⟨v0, v1, v2, d0, d1, d2, p0, p1, p2, rfl, rfl, rfl, ⟨n0, h0⟩, ⟨n1, h1⟩, ⟨n2, h2⟩⟩ := trodAll_three hA
  obtain ⟨rfl, rfl⟩ := trodVars_none hV
  have g0 := each_part (j := 0) (t := 59) (d := d0) hw2 rfl rfl
  have g1 := each_part (j := 1) (t := 59) (d := d1) hw2 rfl rfl
  obtain ⟨C0, rfl, -⟩ := okWide_struct Try.underlying59 (hval 0 59 v0 rfl rfl)
  obtain ⟨C1, rfl, -⟩ := okWide_struct Try.underlying59 (hval 1 59 v1 rfl rfl)
  obtain ⟨A2, l2, c2, rfl⟩ := okWide_slice Try.underlying60 (hval 2 60 v2 rfl rfl)
  obtain ⟨t, A, n, c, e0, hr, hk, hi, hf⟩ := open_tok_s _ _ _ h0 g0
  obtain ⟨u, B, m, d, e1, hs, hk', hi', hf'⟩ := open_tok_s _ _ _ h1 g1
  obtain ⟨A3, l3, c3, xs, e2, hx⟩ := trod_row (d := kU8) Try.underlying60 (by kernel_rfl) (by decide) u8_open h2
  obtain rfl := Array.toList_inj.1 (show C0.toList = _ from e0)
  obtain rfl := Array.toList_inj.1 (show C1.toList = _ from e1)
  obtain ⟨rfl, rfl, rfl⟩ : A2 = A3 ∧ l2 = l3 ∧ c2 = c3 := by simpa [Value.cells] using e2
  clear hA0 hval0 h0 h1 h2
  refine (c_tells t u A B _ n c m d _ _ xs (· < W.heap.size) W hr hs hx ⟨hk, row_cavs hr⟩ hi hf hi' hf').mono fun e W' ⟨he, hg⟩ => ?_
  subst he
  exact ⟨_, rfl, post_true laidOut1 (by kernel_rfl) (by kernel_rfl) Try.underlying4 rfl hW' rfl hg⟩

theorem packetTells_proved : Rows.PacketTellsSaid :=
  OpenClaim.holds_of_wide 8 Try.f8 rfl rfl rfl rfl rfl rfl rfl ⟨rfl, rfl, rfl, rfl, rfl⟩ rfl rfl rfl rfl rfl (by kernel_rfl) Try.func8 (by kernel_rfl)
    (of_decide_eq_true (by kernel_rfl)) (by unfold Func.isWrapper; first | (rw [if_pos (by decide +kernel)]; kernel_rfl) | (rw [if_neg (by decide +kernel)]; exact ⟨rfl, rfl⟩))
    (fun os started H enc _ => packetTells_lifted os started H enc)
end Go.Proofs.Ytlfhbnajopekpaa
