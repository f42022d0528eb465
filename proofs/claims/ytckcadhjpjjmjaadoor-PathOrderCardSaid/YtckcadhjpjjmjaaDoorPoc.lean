/- The statement PathOrder, for every input, and its tied card. No condition. -/
import Derived.Test.YtckcadhjpjjmjaaDoorRows
import Derived.Test.YtckcadhjpjjmjaaDoorTie
import Derived.Test.YtckcadhjpjjmjaaDoorCards
import Derived.Test.YtckcadhjpjjmjaaDoorPoa
import Derived.Test.YtckcadhjpjjmjaaDoorPob
import Derived.SevenTiedAt
namespace Go.Proofs.YtckcadhjpjjmjaaDoor
open Go.ChangeShapes Go.WideShapes Go.ChangeAt Go.RowKit

abbrev pathOrderLaid : List (String × DataW Unit) := [("unicode/utf8.acceptRanges", Rows.laid_unicode_utf8_acceptRanges), ("unicode/utf8.first", Rows.laid_unicode_utf8_first)]
set_option maxRecDepth 100000 in
set_option maxHeartbeats 2000000 in
theorem pathOrder_lifted (os : Os) (started : os.Started) (H : Type) (enc : TypeId × Value → H) :
    ReturnsInHanded {} Tryd.checked os 6 .any (fun w args => (Rows.pathOrderSpec.pre enc Tryd.prog Tryd.f6 [] false w args ∧ laidMetH Tryd.prog pathOrderLaid w) ∧ sizedMet enc Tryd.prog Tryd.f6 (OpenSpec.ofChange Rows.pathOrderSpec) false w args)
      (Rows.pathOrderSpec.post enc Tryd.prog Tryd.f6 false true false false) := by
  refine handed_both (C := Tryd.checked) (X := fun w _ => laidMetH Tryd.prog pathOrderLaid w) (fun _ _ _ hh h => h.of_heap hh) ownKnobD started (by kernel_rfl) Tryd.func6
    (ChangeSpec.witness_shaped (enc := enc) (C := Tryd.checked) (os := os) (X := fun w _ => laidMetH Tryd.prog pathOrderLaid w) false (World.laidAll Tryd.prog os pathOrderLaid) #[.string ByteArray.empty, .string ByteArray.empty, .string ByteArray.empty] 8 (World.laidAll_os _ _ _)
      (World.shaped_of_ZipB (by kernel_rfl) (by kernel_rfl)) (by kernel_rfl) (by kernel_rfl) (by kernel_rfl)
      (by rw [MakeChecks.laidMetH_plain _ _ _ (by kernel_rfl)]; exact laidMet_laidAll _ (by kernel_rfl) (by kernel_rfl))) ?_
  intro W base args ds gs before hval0 hW hwt hL hsh
  have hval : ∀ (j : Nat) t v, Tryd.f6.params[j]? = some t → args[j]? = some v → Value.okWide Tryd.prog W .any base t v := hval0
  have hW' := hW
  obtain ⟨p, q, hA0, hV, rfl, hfz, hnd⟩ := hW
  have hA : DataW.TrodAll enc Tryd.prog W 0 (fun _ => true) true Tryd.f6.params.toList args.toList ds p := hA0
  have hw2 : (DataW.weightsEach Tryd.prog (Tryd.f6.params.toList ++ Rows.pathOrderSpec.plain.varTypes Tryd.prog) (ds ++ gs)).all (· ≤ reachBytes) = true := hwt
  rw [Tryd.params6] at hA hval hw2
  obtain ⟨v0, v1, v2, d0, d1, d2, p0, p1, p2, rfl, rfl, rfl, ⟨n0, h0⟩, ⟨n1, h1⟩, ⟨n2, h2⟩⟩ := trodAll_three hA
  obtain ⟨rfl, rfl⟩ := trodVars_none hV
  have g0 := each_part (j := 0) (t := 9) (d := d0) hw2 rfl rfl
  have g1 := each_part (j := 1) (t := 9) (d := d1) hw2 rfl rfl
  have g2 := each_part (j := 2) (t := 9) (d := d2) hw2 rfl rfl
  obtain ⟨s0, rfl⟩ := okWide_string Tryd.underlying9 (hval 0 9 v0 rfl rfl)
  obtain ⟨use0, ⟨e0, -⟩, hu0⟩ := str_open_s _ _ _ h0 g0
  obtain rfl : s0 = use0 := by simpa [Value.cells] using e0
  obtain ⟨p, rfl⟩ : ∃ l, s0 = txt l := ⟨byt s0, (txt_byt s0).symm⟩
  obtain ⟨s1, rfl⟩ := okWide_string Tryd.underlying9 (hval 1 9 v1 rfl rfl)
  obtain ⟨use1, ⟨e1, -⟩, hu1⟩ := str_open_s _ _ _ h1 g1
  obtain rfl : s1 = use1 := by simpa [Value.cells] using e1
  obtain ⟨q, rfl⟩ : ∃ l, s1 = txt l := ⟨byt s1, (txt_byt s1).symm⟩
  obtain ⟨s2, rfl⟩ := okWide_string Tryd.underlying9 (hval 2 9 v2 rfl rfl)
  obtain ⟨use2, ⟨e2, -⟩, hu2⟩ := str_open_s _ _ _ h2 g2
  obtain rfl : s2 = use2 := by simpa [Value.cells] using e2
  obtain ⟨s, rfl⟩ : ∃ l, s2 = txt l := ⟨byt s2, (txt_byt s2).symm⟩
  obtain ⟨m, hm⟩ := maxlen_of hsh
  clear hA0 hval0 h0 h1 h2
  refine (c_pathorder p q s m W (by have := hu0; rw [txt_size] at this; omega) (by have := hu1; rw [txt_size] at this; omega) (by have := hu2; rw [txt_size] at this; omega) hm).mono fun e W' ⟨he, hg⟩ => ?_
  subst he
  exact ⟨_, rfl, post_true laidOutD (by kernel_rfl) (by kernel_rfl) Tryd.underlying4 rfl hW' rfl hg⟩

theorem pathOrder_row : Rows.PathOrderSaid :=
  OpenClaim.holds_of_wide 6 Tryd.f6 rfl rfl rfl rfl rfl rfl rfl ⟨rfl, rfl, rfl, rfl, rfl⟩ rfl rfl rfl rfl rfl (by kernel_rfl) Tryd.func6 (by kernel_rfl)
    (of_decide_eq_true (by kernel_rfl)) (by unfold Func.isWrapper; first | (rw [if_pos (by decide +kernel)]; kernel_rfl) | (rw [if_neg (by decide +kernel)]; exact ⟨rfl, rfl⟩))
    (fun os started H enc _ => pathOrder_lifted os started H enc)
theorem pathOrder_proved : Rows.PathOrderCardSaid :=
  Claim7.holds_tied_plain_at .later [] [.data, .pinned] true (true, "2ec3429c51431b7b409ee26f38c36534d9ca1e5e5c841bce7aa769e90a65a99b") true
    pathOrder_row (fun _ h => by cases h) (by kernel_rfl) (fun _ h => by cases h) pathOrder_row_tie rfl ⟨rfl, rfl⟩ (by kernel_rfl) rfl
    (fun f fn hf hfn => by
      obtain rfl : f = 6 := Option.some.inj ((show Tryd.prog.funcNamed "chitty/chittylaw14.PathOrder" = some 6 by kernel_rfl).symm.trans hf) |>.symm
      obtain rfl : fn = Tryd.f6 := (Option.some.inj (Tryd.func6.symm.trans hfn)).symm
      exact ⟨by kernel_rfl, fun j t ht => by
        rw [Tryd.params6] at ht
        have hm : t ∈ [9, 9, 9] := by simpa using Array.mem_of_getElem? ht
        have hall : ([9, 9, 9].all fun u => !Tryd.prog.wantsStandIn u) = true := by kernel_rfl
        exact (show Tryd.prog.wantsStandIn t = false by simpa using List.all_eq_true.1 hall t hm)⟩)
    (by kernel_rfl)
end Go.Proofs.YtckcadhjpjjmjaaDoor
