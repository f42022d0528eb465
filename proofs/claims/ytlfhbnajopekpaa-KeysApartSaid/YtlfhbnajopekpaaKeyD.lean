/- The statement KeysApart, for every input. No condition. -/
import Derived.Test.YtlfhbnajopekpaaRows
import Derived.Test.YtlfhbnajopekpaaRow
import Derived.Test.YtlfhbnajopekpaaKey10
namespace Go.Proofs.Ytlfhbnajopekpaa
open Go.ChangeShapes Go.WideShapes Go.ChangeAt Go.RowKit
theorem laidOutA : laidOutB Try.prog = true := by kernel_rfl
theorem ownKnobA : ownKnob Try.prog.godebug = none := by kernel_rfl
theorem u16_of {k : Int} (hk : (Lit.int .u16 k).wf) : ∃ m : Nat, k = m ∧ m < 65536 := by
  simp [Lit.wf, IntKind.min, IntKind.max, IntKind.signed, IntKind.bits] at hk
  exact ⟨k.toNat, by omega, by omega⟩
set_option maxRecDepth 100000 in
set_option maxHeartbeats 2000000 in
theorem keysApart_lifted (os : Os) (started : os.Started) (H : Type) (enc : TypeId × Value → H) :
    ReturnsInHanded {} Try.checked os 4 .any (Rows.keysApartSpec.pre6 enc Try.prog Try.f4 Rows.keysApartRow.domain false) (Rows.keysApartSpec.post enc Try.prog Try.f4 false true false false) := by
  refine returnsInHanded_of_change (C := Try.checked) ownKnobA started (by kernel_rfl) Try.func4
    (ChangeSpec.witness6 (enc := enc) (C := Try.checked) false ⟨#[], #[.int .u16 0, .int .i64 0], []⟩ 8 (by kernel_rfl) (by kernel_rfl) (by kernel_rfl) (by kernel_rfl)) ?_
  intro W base args ds gs before hval0 hW hcnd _
  have hval : ∀ (j : Nat) t v, Try.f4.params[j]? = some t → args[j]? = some v → Value.okWide Try.prog W .any base t v := hval0
  have hW' := hW
  obtain ⟨p, q, hA0, hV, rfl, hfz, hnd⟩ := hW
  have hA : DataW.TrodAll enc Try.prog W 0 (fun _ => true) true Try.f4.params.toList args.toList ds p := hA0
  rw [Try.params4] at hA hval
  obtain ⟨v0, v1, d0, d1, p0, p1, rfl, rfl, rfl, h0, h1⟩ := trodAll_two hA
  obtain ⟨rfl, rfl⟩ := trodVars_none hV
  obtain ⟨a0, rfl, rfl, rfl, w0⟩ := open_int Try.underlying36 (hval 0 36 v0 rfl rfl) h0
  obtain ⟨a1, rfl, rfl, rfl, w1⟩ := open_int Try.underlying3 (hval 1 3 v1 rfl rfl) h1
  obtain ⟨m0, rfl, l0⟩ := u16_of w0
  clear hA0 hval0 h0
  refine (c_kapart m0 a1 W l0).mono fun e W' ⟨he, hg⟩ => ?_
  subst he
  exact ⟨_, rfl, post_true laidOutA (by kernel_rfl) (by kernel_rfl) Try.underlying4 rfl hW' rfl hg⟩

theorem keysApart_proved : Rows.KeysApartSaid :=
  OpenClaim.holds_of_wide 4 Try.f4 rfl rfl rfl rfl rfl rfl rfl ⟨rfl, rfl, rfl, rfl, rfl⟩ rfl rfl rfl rfl rfl (by kernel_rfl) Try.func4 (by kernel_rfl)
    (of_decide_eq_true (by kernel_rfl)) (by unfold Func.isWrapper; first | (rw [if_pos (by decide +kernel)]; kernel_rfl) | (rw [if_neg (by decide +kernel)]; exact ⟨rfl, rfl⟩))
    (fun os started H enc _ => keysApart_lifted os started H enc)
end Go.Proofs.Ytlfhbnajopekpaa
