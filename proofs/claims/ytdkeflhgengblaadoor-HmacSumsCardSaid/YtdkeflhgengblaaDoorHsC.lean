/- The statement HmacSums, for every input, and its tied card. No condition. -/
import Derived.Test.YtdkeflhgengblaaDoorRows
import Derived.Test.YtdkeflhgengblaaDoorTie
import Derived.Test.YtdkeflhgengblaaDoorCards
import Derived.Test.YtdkeflhgengblaaDoorDoor
import Derived.Test.YtdkeflhgengblaaDoorHs2
import Derived.SevenTiedAt
namespace Go.Proofs.YtdkeflhgengblaaDoor
open Go.ChangeShapes Go.WideShapes Go.ChangeAt Go.RowKit

set_option maxRecDepth 100000 in
set_option maxHeartbeats 2000000 in
theorem hmacSums_lifted (os : Os) (started : os.Started) (H : Type) (enc : TypeId × Value → H) :
    ReturnsInHanded {} Tryd.checked os 3 .any (fun w args => (Rows.hmacSumsSpec.pre enc Tryd.prog Tryd.f3 [] false w args ∧ laidMetH Tryd.prog laidD w) ∧ sizedMet enc Tryd.prog Tryd.f3 (OpenSpec.ofChange Rows.hmacSumsSpec) false w args)
      (Rows.hmacSumsSpec.post enc Tryd.prog Tryd.f3 false true false false) := by
  refine returnsInHanded_of_change_and (C := Tryd.checked) (X := fun w _ => laidMetH Tryd.prog laidD w) (fun _ _ _ hh h => h.of_heap hh) ownKnobD started (by kernel_rfl) Tryd.func3
    (ChangeSpec.witness_shaped (enc := enc) (C := Tryd.checked) (os := os) (X := fun w _ => laidMetH Tryd.prog laidD w) false (World.doorLaid Tryd.prog 400 os) #[.slice none 0 0, .slice none 0 0] 8 rfl (World.shaped_of_RefB (by kernel_rfl) (by kernel_rfl)) (by kernel_rfl) (by kernel_rfl) (by kernel_rfl) (door_met os _)) ?_
  intro W base args ds gs before hval0 hW _ _ hL _
  have hval : ∀ (j : Nat) t v, Tryd.f3.params[j]? = some t → args[j]? = some v → Value.okWide Tryd.prog W .any base t v := hval0
  have hW' := hW
  obtain ⟨p, q, hA0, hV, rfl, hfz, hnd⟩ := hW
  have hA : DataW.TrodAll enc Tryd.prog W 0 (fun _ => true) true Tryd.f3.params.toList args.toList ds p := hA0
  rw [Tryd.params3] at hA hval
  obtain ⟨v0, v1, d0, d1, p0, p1, rfl, rfl, rfl, ⟨n0, h0⟩, ⟨n1, h1⟩⟩ := trodAll_two hA
  obtain ⟨rfl, rfl⟩ := trodVars_none hV
  obtain ⟨A0, l0, c0, rfl⟩ := okWide_slice Tryd.underlying22 (hval 0 22 v0 rfl rfl)
  obtain ⟨A1, l1, c1, rfl⟩ := okWide_slice Tryd.underlying23 (hval 1 23 v1 rfl rfl)
  obtain ⟨A, n, c, xs, e0, hx⟩ := trod_row (d := kU8) Tryd.underlying22 (by kernel_rfl) (by decide) u8_open h0
  obtain ⟨B, m, d, ys, e1, hy⟩ := trod_row (d := kRow8) Tryd.underlying23 (by kernel_rfl) (by decide) bytes_open h1
  obtain ⟨rfl, rfl, rfl⟩ : A0 = A ∧ l0 = n ∧ c0 = c := by simpa [Value.cells] using e0
  obtain ⟨rfl, rfl, rfl⟩ : A1 = B ∧ l1 = m ∧ c1 = d := by simpa [Value.cells] using e1
  have hP := primes_of hL
  clear hA0 hval0 h0 h1
  refine (c_hsums _ _ _ _ _ _ xs ys W hx hy hP).mono fun e W' ⟨he, hg⟩ => ?_
  subst he
  exact ⟨_, rfl, post_true laidOutD (by kernel_rfl) (by kernel_rfl) Tryd.underlying4 rfl hW' rfl hg⟩

theorem hmacSums_row : Rows.HmacSumsSaid :=
  OpenClaim.holds_of_wide 3 Tryd.f3 rfl rfl rfl rfl rfl rfl rfl ⟨rfl, rfl, rfl, rfl, rfl⟩ rfl rfl rfl rfl rfl (by kernel_rfl) Tryd.func3 (by kernel_rfl)
    (of_decide_eq_true (by kernel_rfl)) (by unfold Func.isWrapper; first | (rw [if_pos (by decide +kernel)]; kernel_rfl) | (rw [if_neg (by decide +kernel)]; exact ⟨rfl, rfl⟩))
    (fun os started H enc _ => hmacSums_lifted os started H enc)
theorem hmacSums_proved : Rows.HmacSumsCardSaid :=
  Claim7.holds_tied_plain_at .later [] [.data] true (true, "d317ab1675fa3a16e363678a6185963307d92010002b8084dbffbaf3b4b18b17") false
    hmacSums_row (fun _ h => by cases h) (by kernel_rfl) (fun _ h => by cases h) hmacSums_row_tie rfl ⟨rfl, rfl⟩ (by kernel_rfl) rfl
    (fun f fn hf hfn => by
      obtain rfl : f = 3 := Option.some.inj ((show Tryd.prog.funcNamed "chitty/chittylaw04.HmacSums" = some 3 by kernel_rfl).symm.trans hf) |>.symm
      obtain rfl : fn = Tryd.f3 := (Option.some.inj (Tryd.func3.symm.trans hfn)).symm
      exact ⟨by kernel_rfl, fun j t ht => by
        rw [Tryd.params3] at ht
        have hm : t ∈ [22, 23] := by simpa using Array.mem_of_getElem? ht
        have hall : ([22, 23].all fun u => !Tryd.prog.wantsStandIn u) = true := by kernel_rfl
        exact (show Tryd.prog.wantsStandIn t = false by simpa using List.all_eq_true.1 hall t hm)⟩)
    (by kernel_rfl)
end Go.Proofs.YtdkeflhgengblaaDoor
