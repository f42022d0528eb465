/- The statement ThirdAdds, for every input, and its tied card. No condition. -/
import Derived.Test.YtdkeflhgengblaaDoorAde
import Derived.Test.YtdkeflhgengblaaDoorAdb
import Derived.Test.YtdkeflhgengblaaDoorAdd
import Derived.Test.YtdkeflhgengblaaDoorRows
import Derived.Test.YtdkeflhgengblaaDoorTie
import Derived.Test.YtdkeflhgengblaaDoorCards
import Derived.SevenTiedAt
namespace Go.Proofs.YtdkeflhgengblaaDoor
open Go.ChangeShapes Go.WideShapes Go.ChangeAt Go.RowKit

theorem open_cav_s {H : Type} {enc : TypeId × Value → H} {w : World} {spare : Nat → Bool} {held : Bool} (n : Nat) (cs : List Value) (x : DataW H × List MemPlace) (h : DataW.trod enc Tryd.prog w 0 spare held n 83 cs = some x) (hw : inReach x.1 83) :
    ∃ y, kCav.K (· < w.heap.size) w y cs ∧ y.fits := by
  obtain ⟨y, hy⟩ := open_cav n cs x h
  refine ⟨y, hy, ?_⟩
  obtain ⟨xs, m, rfl, rfl, hl, hx, hf⟩ := DataW.trod_struct Tryd.underlying83 h
  have hxs : xs.length = 5 := hx
  have hE := reach_struct Tryd.underlying83 hw
  have hcs := hy.1
  have c9 : Tryd.prog.cellsOf 9 = 1 := by kernel_rfl
  have h1 := hf 1 _ rfl
  have h3 := hf 3 _ rfl
  have h4 := hf 4 _ rfl
  rw [List.getElem?_eq_getElem (by omega)] at h1 h3 h4
  obtain ⟨s1, e1, x1, -⟩ := DataW.trod_string Tryd.underlying9 h1
  obtain ⟨s3, e3, x3, -⟩ := DataW.trod_string Tryd.underlying9 h3
  obtain ⟨s4, e4, x4, -⟩ := DataW.trod_string Tryd.underlying9 h4
  simp [c9, hcs, Cav.cells] at e1 e3 e4
  have g1 := each_part (j := 1) (t := 9) (d := xs[1].1) hE rfl (by rw [List.getElem?_map, List.getElem?_eq_getElem (by omega)]; rfl)
  have g3 := each_part (j := 3) (t := 9) (d := xs[3].1) hE rfl (by rw [List.getElem?_map, List.getElem?_eq_getElem (by omega)]; rfl)
  have g4 := each_part (j := 4) (t := 9) (d := xs[4].1) hE rfl (by rw [List.getElem?_map, List.getElem?_eq_getElem (by omega)]; rfl)
  rw [x1] at g1
  rw [x3] at g3
  rw [x4] at g4
  exact ⟨by rw [e1]; exact reach_str g1, by rw [e3]; exact reach_str g3, by rw [e4]; exact reach_str g4⟩
variable {H : Type} {enc : TypeId × Value → H} {w : World} {spare : Nat → Bool} {held : Bool}
theorem open_tok_s (n : Nat) (cs : List Value) (x : DataW H × List MemPlace) (h : DataW.trod enc Tryd.prog w 0 spare held n 44 cs = some x) (hw : inReach x.1 44) :
    ∃ (t : Tok) (A : Option Addr) (l c : Nat), cs = (tokC (.int .u64 (t.key : Int)) (.string t.id) (.slice A l c) (.bool t.bnd) t.tag).toList ∧ kCav.Row (· < w.heap.size) w A l c t.cavs ∧ t.key < 18446744073709551616 ∧ t.id.size ≤ 140737488355328 ∧ ∀ c ∈ t.cavs, c.fits := by
  obtain ⟨t, A, l, c, e, hr, hk, -⟩ := open_tok n cs x h
  obtain ⟨xs, m, rfl, rfl, hl, hx, hf⟩ := DataW.trod_struct Tryd.underlying44 h
  have hxs : xs.length = 5 := hx
  have hE := reach_struct Tryd.underlying44 hw
  have c9 : Tryd.prog.cellsOf 9 = 1 := by kernel_rfl
  have c57 : Tryd.prog.cellsOf 42 = 1 := by kernel_rfl
  have h1 := hf 1 _ rfl
  have h2 := hf 2 _ rfl
  rw [List.getElem?_eq_getElem (by omega)] at h1 h2
  obtain ⟨s1, e1, x1, -⟩ := DataW.trod_string Tryd.underlying9 h1
  have g1 := each_part (j := 1) (t := 9) (d := xs[1].1) hE rfl (by rw [List.getElem?_map, List.getElem?_eq_getElem (by omega)]; rfl)
  have g2 := each_part (j := 2) (t := 42) (d := xs[2].1) hE rfl (by rw [List.getElem?_map, List.getElem?_eq_getElem (by omega)]; rfl)
  rw [x1] at g1
  obtain ⟨A2, l2, c2, cv, e2, hr2, hq2⟩ := trod_row_s (d := kCav) (Q := Cav.fits) Tryd.underlying42 (by kernel_rfl) (by decide) open_cav_s h2 g2
  simp [c9, e, tokC] at e1
  simp [c57, e, tokC] at e2
  obtain ⟨rfl, rfl, rfl⟩ := e2
  refine ⟨⟨t.key, t.id, cv, t.bnd, t.tag⟩, A, l, c, e, hr2, hk, ?_, hq2⟩
  show t.id.size ≤ _
  rw [e1]
  exact reach_str g1
end Go.Proofs.YtdkeflhgengblaaDoor
namespace Go.Proofs.YtdkeflhgengblaaDoor
open Go.ChangeShapes Go.WideShapes Go.ChangeAt Go.RowKit
theorem drop_split (l : List Value) (a b : Nat) : l.drop a = (l.drop a).take b ++ l.drop (a + b) := by
  rw [← List.drop_drop, List.take_append_drop]
theorem open_deal {H : Type} {enc : TypeId × Value → H} {w : World} {spare : Nat → Bool} {held : Bool} (n : Nat) (cs : List Value) (x : DataW H × List MemPlace) (h : DataW.trod enc Tryd.prog w 0 spare held n 70 cs = some x) (hw : inReach x.1 70) :
    ∃ d : Deal, cs = (dealA d).toList ∧ d.party < 18446744073709551616 ∧ d.cond.length ≤ 140737488355328 := by
  obtain ⟨xs, m, rfl, rfl, hl, hx, hf⟩ := DataW.trod_struct Tryd.underlying70 h
  have hE := reach_struct Tryd.underlying70 hw
  have c130 : Tryd.prog.cellsOf 70 = 130 := by kernel_rfl
  rw [c130] at hl
  have hxs : xs.length = 6 := hx
  have c9 : Tryd.prog.cellsOf 9 = 1 := by kernel_rfl
  have c39 : Tryd.prog.cellsOf 41 = 1 := by kernel_rfl
  have c32 : Tryd.prog.cellsOf 29 = 32 := by kernel_rfl
  have h0 : DataW.trod enc Tryd.prog w 0 spare held m 41 (List.take (Tryd.prog.cellsOf 41) (List.drop 0 cs)) = xs[0]? := hf 0 _ rfl
  have h1 : DataW.trod enc Tryd.prog w 0 spare held m 29 (List.take (Tryd.prog.cellsOf 29) (List.drop 1 cs)) = xs[1]? := hf 1 _ rfl
  have h2 : DataW.trod enc Tryd.prog w 0 spare held m 29 (List.take (Tryd.prog.cellsOf 29) (List.drop 33 cs)) = xs[2]? := hf 2 _ rfl
  have h3 : DataW.trod enc Tryd.prog w 0 spare held m 9 (List.take (Tryd.prog.cellsOf 9) (List.drop 65 cs)) = xs[3]? := hf 3 _ rfl
  have h4 : DataW.trod enc Tryd.prog w 0 spare held m 29 (List.take (Tryd.prog.cellsOf 29) (List.drop 66 cs)) = xs[4]? := hf 4 _ rfl
  have h5 : DataW.trod enc Tryd.prog w 0 spare held m 29 (List.take (Tryd.prog.cellsOf 29) (List.drop 98 cs)) = xs[5]? := hf 5 _ rfl
  rw [List.getElem?_eq_getElem (by omega)] at h0 h1 h2 h3 h4 h5
  obtain ⟨k, e0, -, hk⟩ := DataW.trod_int Tryd.underlying41 h0
  obtain ⟨t1, e1⟩ := open_tag _ _ _ h1
  obtain ⟨t2, e2⟩ := open_tag _ _ _ h2
  obtain ⟨s3, e3, x3, hm3⟩ := DataW.trod_string Tryd.underlying9 h3
  obtain ⟨t4, e4⟩ := open_tag _ _ _ h4
  obtain ⟨t5, e5⟩ := open_tag _ _ _ h5
  have g3 := each_part (j := 3) (t := 9) (d := xs[3].1) hE rfl (by rw [List.getElem?_map, List.getElem?_eq_getElem (by omega)]; rfl)
  rw [x3] at g3
  simp [Lit.wf, IntKind.min, IntKind.max, IntKind.signed, IntKind.bits] at hk
  obtain ⟨pn, rfl⟩ : ∃ pn : Nat, k = pn := ⟨k.toNat, by omega⟩
  rw [c39] at e0
  rw [c32] at e1 e2 e4 e5
  rw [c9] at e3
  refine ⟨⟨pn, t1, t2, byt s3, t4, t5⟩, ?_, by show pn < _; omega, by show (byt s3).length ≤ _; rw [byt_len]; exact reach_str g3⟩
  have e6 : cs.drop 130 = [] := List.drop_eq_nil_of_le (by omega)
  have s0 := drop_split cs 0 1
  have s1 := drop_split cs 1 32
  have s2 := drop_split cs 33 32
  have s3' := drop_split cs 65 1
  have s4 := drop_split cs 66 32
  have s5 := drop_split cs 98 32
  rw [e0] at s0
  rw [e1] at s1
  rw [e2] at s2
  rw [e3] at s3'
  rw [e4] at s4
  rw [e5, e6] at s5
  rw [show cs = cs.drop 0 from rfl, s0, show 0 + 1 = 1 from rfl, s1, show 1 + 32 = 33 from rfl, s2, show 33 + 32 = 65 from rfl, s3', show 65 + 1 = 66 from rfl, s4, show 66 + 32 = 98 from rfl, s5]
  simp [dealC, txt_byt]
end Go.Proofs.YtdkeflhgengblaaDoor
namespace Go.Proofs.YtdkeflhgengblaaDoor
open Go.ChangeShapes Go.WideShapes Go.ChangeAt Go.RowKit

set_option maxRecDepth 100000 in
set_option maxHeartbeats 2000000 in
theorem thirdAdds_lifted (os : Os) (started : os.Started) (H : Type) (enc : TypeId × Value → H) :
    ReturnsInHanded {} Tryd.checked os 8 .any (fun w args => (Rows.thirdAddsSpec.pre enc Tryd.prog Tryd.f8 [] false w args ∧ laidMetH Tryd.prog laidD w) ∧ sizedMet enc Tryd.prog Tryd.f8 (OpenSpec.ofChange Rows.thirdAddsSpec) false w args)
      (Rows.thirdAddsSpec.post enc Tryd.prog Tryd.f8 false true false false) := by
  refine returnsInHanded_of_change_and (C := Tryd.checked) (X := fun w _ => laidMetH Tryd.prog laidD w) (fun _ _ _ hh h => h.of_heap hh) ownKnobD started (by kernel_rfl) Tryd.func8
    (ChangeSpec.witness_shaped (enc := enc) (C := Tryd.checked) (os := os) (X := fun w _ => laidMetH Tryd.prog laidD w) false (World.doorLaid Tryd.prog 400 os) #[.agg #[.int .u64 0, .string ByteArray.empty, .slice none 0 0, .bool false, .int .u8 0, .int .u8 0, .int .u8 0, .int .u8 0, .int .u8 0, .int .u8 0, .int .u8 0, .int .u8 0, .int .u8 0, .int .u8 0, .int .u8 0, .int .u8 0, .int .u8 0, .int .u8 0, .int .u8 0, .int .u8 0, .int .u8 0, .int .u8 0, .int .u8 0, .int .u8 0, .int .u8 0, .int .u8 0, .int .u8 0, .int .u8 0, .int .u8 0, .int .u8 0, .int .u8 0, .int .u8 0, .int .u8 0, .int .u8 0, .int .u8 0, .int .u8 0], .agg #[.int .u64 0, .int .u8 0, .int .u8 0, .int .u8 0, .int .u8 0, .int .u8 0, .int .u8 0, .int .u8 0, .int .u8 0, .int .u8 0, .int .u8 0, .int .u8 0, .int .u8 0, .int .u8 0, .int .u8 0, .int .u8 0, .int .u8 0, .int .u8 0, .int .u8 0, .int .u8 0, .int .u8 0, .int .u8 0, .int .u8 0, .int .u8 0, .int .u8 0, .int .u8 0, .int .u8 0, .int .u8 0, .int .u8 0, .int .u8 0, .int .u8 0, .int .u8 0, .int .u8 0, .int .u8 0, .int .u8 0, .int .u8 0, .int .u8 0, .int .u8 0, .int .u8 0, .int .u8 0, .int .u8 0, .int .u8 0, .int .u8 0, .int .u8 0, .int .u8 0, .int .u8 0, .int .u8 0, .int .u8 0, .int .u8 0, .int .u8 0, .int .u8 0, .int .u8 0, .int .u8 0, .int .u8 0, .int .u8 0, .int .u8 0, .int .u8 0, .int .u8 0, .int .u8 0, .int .u8 0, .int .u8 0, .int .u8 0, .int .u8 0, .int .u8 0, .int .u8 0, .string ByteArray.empty, .int .u8 0, .int .u8 0, .int .u8 0, .int .u8 0, .int .u8 0, .int .u8 0, .int .u8 0, .int .u8 0, .int .u8 0, .int .u8 0, .int .u8 0, .int .u8 0, .int .u8 0, .int .u8 0, .int .u8 0, .int .u8 0, .int .u8 0, .int .u8 0, .int .u8 0, .int .u8 0, .int .u8 0, .int .u8 0, .int .u8 0, .int .u8 0, .int .u8 0, .int .u8 0, .int .u8 0, .int .u8 0, .int .u8 0, .int .u8 0, .int .u8 0, .int .u8 0, .int .u8 0, .int .u8 0, .int .u8 0, .int .u8 0, .int .u8 0, .int .u8 0, .int .u8 0, .int .u8 0, .int .u8 0, .int .u8 0, .int .u8 0, .int .u8 0, .int .u8 0, .int .u8 0, .int .u8 0, .int .u8 0, .int .u8 0, .int .u8 0, .int .u8 0, .int .u8 0, .int .u8 0, .int .u8 0, .int .u8 0, .int .u8 0, .int .u8 0, .int .u8 0, .int .u8 0, .int .u8 0, .int .u8 0, .int .u8 0, .int .u8 0, .int .u8 0]] 8 rfl (World.shaped_of_RefB (by kernel_rfl) (by kernel_rfl)) (by kernel_rfl) (by kernel_rfl) (by kernel_rfl) (door_met os _)) ?_
  intro W base args ds gs before hval0 hW _ hwt hL _
  have hval : ∀ (j : Nat) t v, Tryd.f8.params[j]? = some t → args[j]? = some v → Value.okWide Tryd.prog W .any base t v := hval0
  have hW' := hW
  obtain ⟨p, q, hA0, hV, rfl, hfz, hnd⟩ := hW
  have hA : DataW.TrodAll enc Tryd.prog W 0 (fun _ => true) true Tryd.f8.params.toList args.toList ds p := hA0
  have hw2 : (DataW.weightsEach Tryd.prog (Tryd.f8.params.toList ++ Rows.thirdAddsSpec.plain.varTypes Tryd.prog) (ds ++ gs)).all (· ≤ reachBytes) = true := hwt
  rw [Tryd.params8] at hA hval hw2
  obtain ⟨v0, v1, d0, d1, p0, p1, rfl, rfl, rfl, ⟨n0, h0⟩, ⟨n1, h1⟩⟩ := trodAll_two hA
  obtain ⟨rfl, rfl⟩ := trodVars_none hV
  have g0 := each_part (j := 0) (t := 44) (d := d0) hw2 rfl rfl
  have g1 := each_part (j := 1) (t := 70) (d := d1) hw2 rfl rfl
  obtain ⟨C0, rfl, -⟩ := okWide_struct Tryd.underlying44 (hval 0 44 v0 rfl rfl)
  obtain ⟨t, A0, l0, c0, e0, hr0, hk0, hi0, hf0⟩ := open_tok_s _ _ _ h0 g0
  obtain rfl := Array.toList_inj.1 (show C0.toList = _ from e0)
  obtain ⟨C1, rfl, -⟩ := okWide_struct Tryd.underlying70 (hval 1 70 v1 rfl rfl)
  obtain ⟨d, e1, hp1, hc1⟩ := open_deal _ _ _ h1 g1
  obtain rfl := Array.toList_inj.1 (show C1.toList = _ from e1)
  have hP := primes_of hL
  clear hA0 hval0 h0 h1
  refine (c_thirdadds t d A0 l0 c0 _ W hr0 hi0 hf0 (by have := hc1; simp only [maxLen]; omega) hp1 hP).mono fun e W' ⟨he, hg⟩ => ?_
  subst he
  exact ⟨_, rfl, post_true laidOutD (by kernel_rfl) (by kernel_rfl) Tryd.underlying4 rfl hW' rfl hg⟩

theorem thirdAdds_row : Rows.ThirdAddsSaid :=
  OpenClaim.holds_of_wide 8 Tryd.f8 rfl rfl rfl rfl rfl rfl rfl ⟨rfl, rfl, rfl, rfl, rfl⟩ rfl rfl rfl rfl rfl (by kernel_rfl) Tryd.func8 (by kernel_rfl)
    (of_decide_eq_true (by kernel_rfl)) (by unfold Func.isWrapper; first | (rw [if_pos (by decide +kernel)]; kernel_rfl) | (rw [if_neg (by decide +kernel)]; exact ⟨rfl, rfl⟩))
    (fun os started H enc _ => thirdAdds_lifted os started H enc)
theorem thirdAdds_proved : Rows.ThirdAddsCardSaid :=
  Claim7.holds_tied_plain_at .later [] [.data] true (true, "d317ab1675fa3a16e363678a6185963307d92010002b8084dbffbaf3b4b18b17") false
    thirdAdds_row (fun _ h => by cases h) (by kernel_rfl) (fun _ h => by cases h) thirdAdds_row_tie rfl ⟨rfl, rfl⟩ (by kernel_rfl) rfl
    (fun f fn hf hfn => by
      obtain rfl : f = 8 := Option.some.inj ((show Tryd.prog.funcNamed "chitty/chittylaw20.ThirdAdds" = some 8 by kernel_rfl).symm.trans hf) |>.symm
      obtain rfl : fn = Tryd.f8 := (Option.some.inj (Tryd.func8.symm.trans hfn)).symm
      exact ⟨by kernel_rfl, fun j t ht => by
        rw [Tryd.params8] at ht
        have hm : t ∈ [44, 70] := by simpa using Array.mem_of_getElem? ht
        have hall : ([44, 70].all fun u => !Tryd.prog.wantsStandIn u) = true := by kernel_rfl
        exact (show Tryd.prog.wantsStandIn t = false by simpa using List.all_eq_true.1 hall t hm)⟩)
    (by kernel_rfl)
end Go.Proofs.YtdkeflhgengblaaDoor
