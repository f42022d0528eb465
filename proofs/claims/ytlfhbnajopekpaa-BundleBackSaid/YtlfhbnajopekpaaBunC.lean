/- The statement BundleBack, for every input. No condition. -/
import Derived.Test.YtlfhbnajopekpaaRows
import Derived.Test.YtlfhbnajopekpaaRow
import Derived.Test.YtlfhbnajopekpaaBunO
import Derived.Test.YtlfhbnajopekpaaBun5
namespace Go.Proofs.Ytlfhbnajopekpaa
open Go.ChangeShapes Go.WideShapes Go.ChangeAt Go.RowKit

set_option maxRecDepth 100000 in
set_option maxHeartbeats 2000000 in
theorem bundleBack_lifted (os : Os) (started : os.Started) (H : Type) (enc : TypeId × Value → H) :
    ReturnsInHanded {} Try.checked os 9 .any (Rows.bundleBackSpec.pre6 enc Try.prog Try.f9 Rows.bundleBackRow.domain false) (Rows.bundleBackSpec.post enc Try.prog Try.f9 false true false false) := by
  refine returnsInHanded_of_change (C := Try.checked) ownKnob1 started (by kernel_rfl) Try.func9
    (ChangeSpec.witness6 (enc := enc) (C := Try.checked) false ⟨#[], #[.agg #[.int .u64 0, .string ByteArray.empty, .slice none 0 0, .bool false, .int .u8 0, .int .u8 0, .int .u8 0, .int .u8 0, .int .u8 0, .int .u8 0, .int .u8 0, .int .u8 0, .int .u8 0, .int .u8 0, .int .u8 0, .int .u8 0, .int .u8 0, .int .u8 0, .int .u8 0, .int .u8 0, .int .u8 0, .int .u8 0, .int .u8 0, .int .u8 0, .int .u8 0, .int .u8 0, .int .u8 0, .int .u8 0, .int .u8 0, .int .u8 0, .int .u8 0, .int .u8 0, .int .u8 0, .int .u8 0, .int .u8 0, .int .u8 0, .slice none 0 0], .agg #[.int .u64 0, .string ByteArray.empty, .slice none 0 0, .bool false, .int .u8 0, .int .u8 0, .int .u8 0, .int .u8 0, .int .u8 0, .int .u8 0, .int .u8 0, .int .u8 0, .int .u8 0, .int .u8 0, .int .u8 0, .int .u8 0, .int .u8 0, .int .u8 0, .int .u8 0, .int .u8 0, .int .u8 0, .int .u8 0, .int .u8 0, .int .u8 0, .int .u8 0, .int .u8 0, .int .u8 0, .int .u8 0, .int .u8 0, .int .u8 0, .int .u8 0, .int .u8 0, .int .u8 0, .int .u8 0, .int .u8 0, .int .u8 0, .slice none 0 0], .slice none 0 0], []⟩ 8 (by kernel_rfl) (by kernel_rfl) (by kernel_rfl) (by kernel_rfl)) ?_
  intro W base args ds gs before hval0 hW hcnd _
  have hval : ∀ (j : Nat) t v, Try.f9.params[j]? = some t → args[j]? = some v → Value.okWide Try.prog W .any base t v := hval0
  have hW' := hW
  obtain ⟨p, q, hA0, hV, rfl, hfz, hnd⟩ := hW
  have hA : DataW.TrodAll enc Try.prog W 0 (fun _ => true) true Try.f9.params.toList args.toList ds p := hA0
  rw [Try.params9] at hA hval
  obtain ⟨v0, v1, v2, d0, d1, d2, p0, p1, p2, rfl, rfl, rfl, ⟨n0, h0⟩, ⟨n1, h1⟩, ⟨n2, h2⟩⟩ := trodAll_three hA
  obtain ⟨rfl, rfl⟩ := trodVars_none hV
  obtain ⟨C0, rfl, -⟩ := okWide_struct Try.underlying70 (hval 0 70 v0 rfl rfl)
  obtain ⟨C1, rfl, -⟩ := okWide_struct Try.underlying70 (hval 1 70 v1 rfl rfl)
  obtain ⟨A2, l2, c2, rfl⟩ := okWide_slice Try.underlying60 (hval 2 60 v2 rfl rfl)
  obtain ⟨x, A, n, c, B, m, d, e0, hr1, hr2, hk⟩ := open_bun _ _ _ h0
  obtain ⟨y, C, n', c', D, m', d', e1, hs1, hs2, hk'⟩ := open_bun _ _ _ h1
  obtain ⟨A3, l3, c3, xs, e2, hx⟩ := trod_row (d := kU8) Try.underlying60 (by kernel_rfl) (by decide) u8_open h2
  obtain rfl := Array.toList_inj.1 (show C0.toList = _ from e0)
  obtain rfl := Array.toList_inj.1 (show C1.toList = _ from e1)
  obtain ⟨rfl, rfl, rfl⟩ : A2 = A3 ∧ l2 = l3 ∧ c2 = c3 := by simpa [Value.cells] using e2
  clear hA0 hval0 h0 h1 h2
  refine (c_bback x y A B C D _ n c m d n' c' m' d' _ _ xs (· < W.heap.size) W hr1 hr2 hs1 hs2 hx hk hk').mono fun e W' ⟨he, hg⟩ => ?_
  subst he
  exact ⟨_, rfl, post_true laidOut1 (by kernel_rfl) (by kernel_rfl) Try.underlying4 rfl hW' rfl hg⟩

theorem bundleBack_proved : Rows.BundleBackSaid :=
  OpenClaim.holds_of_wide 9 Try.f9 rfl rfl rfl rfl rfl rfl rfl ⟨rfl, rfl, rfl, rfl, rfl⟩ rfl rfl rfl rfl rfl (by kernel_rfl) Try.func9 (by kernel_rfl)
    (of_decide_eq_true (by kernel_rfl)) (by unfold Func.isWrapper; first | (rw [if_pos (by decide +kernel)]; kernel_rfl) | (rw [if_neg (by decide +kernel)]; exact ⟨rfl, rfl⟩))
    (fun os started H enc _ => bundleBack_lifted os started H enc)
end Go.Proofs.Ytlfhbnajopekpaa
