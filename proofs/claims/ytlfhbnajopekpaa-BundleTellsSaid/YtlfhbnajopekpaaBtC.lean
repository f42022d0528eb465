/- The statement BundleTells, for every input. No condition. -/
import Derived.Test.YtlfhbnajopekpaaRows
import Derived.Test.YtlfhbnajopekpaaRow
import Derived.Test.YtlfhbnajopekpaaBunO
import Derived.Test.YtlfhbnajopekpaaPktS
import Derived.Test.YtlfhbnajopekpaaBt2
namespace Go.Proofs.Ytlfhbnajopekpaa
open Go.ChangeShapes Go.WideShapes Go.ChangeAt Go.RowKit

theorem tok_open_s {H : Type} {enc : TypeId × Value → H} {w : World} {spare : Nat → Bool} {held : Bool} (n : Nat) (cs : List Value) (x : DataW H × List MemPlace) (h : DataW.trod enc Try.prog w 0 spare held n 59 cs = some x) (hw : inReach x.1 59) :
    ∃ y, kTok.K (· < w.heap.size) w y cs ∧ y.fits := by
  obtain ⟨t, A, l, c, e, hr, hk, hi, hf⟩ := open_tok_s _ _ _ h hw
  exact ⟨t, ⟨A, l, c, e, hr, hk⟩, hi, hf⟩
theorem open_bun_s {H : Type} {enc : TypeId × Value → H} {w : World} {spare : Nat → Bool} {held : Bool} (n : Nat) (cs : List Value) (x : DataW H × List MemPlace) (h : DataW.trod enc Try.prog w 0 spare held n 70 cs = some x) (hw : inReach x.1 70) :
    ∃ (b : Bun) (A : Option Addr) (l c : Nat) (B : Option Addr) (m d : Nat), cs = (bunA b A l c B m d).toList ∧ kCav.Row (· < w.heap.size) w A l c b.root.cavs ∧ kTok.Row (· < w.heap.size) w B m d b.dis ∧ b.root.key < 18446744073709551616 ∧ b.root.fits ∧ ∀ y ∈ b.dis, y.fits := by
  obtain ⟨xs, m, rfl, rfl, hl, hx, hf⟩ := DataW.trod_struct Try.underlying70 h
  have c37 : Try.prog.cellsOf 70 = 37 := by kernel_rfl
  have c36 : Try.prog.cellsOf 59 = 36 := by kernel_rfl
  have c1 : Try.prog.cellsOf 68 = 1 := by kernel_rfl
  have hE := reach_struct Try.underlying70 hw
  rw [c37] at hl
  have hxs : xs.length = 2 := hx
  have h0 : DataW.trod enc Try.prog w 0 spare held m 59 (List.take (Try.prog.cellsOf 59) (List.drop 0 cs)) = xs[0]? := hf 0 _ rfl
  have h1 : DataW.trod enc Try.prog w 0 spare held m 68 (List.take (Try.prog.cellsOf 68) (List.drop 36 cs)) = xs[1]? := hf 1 _ rfl
  rw [List.getElem?_eq_getElem (by omega)] at h0 h1
  rw [c36, List.drop_zero] at h0
  rw [c1] at h1
  have g0 := each_part (j := 0) (t := 59) (d := xs[0].1) hE rfl (by rw [List.getElem?_map, List.getElem?_eq_getElem (by omega)]; rfl)
  have g1 := each_part (j := 1) (t := 68) (d := xs[1].1) hE rfl (by rw [List.getElem?_map, List.getElem?_eq_getElem (by omega)]; rfl)
  obtain ⟨t, A, l, c, e0, hr, hk, hi, hff⟩ := open_tok_s _ _ _ h0 g0
  obtain ⟨B, m', d, ds, e1, hs, hq⟩ := trod_row_s (d := kTok) (Q := Tok.fits) Try.underlying68 c36 (by decide) tok_open_s h1 g1
  refine ⟨⟨t, ds⟩, A, l, c, B, m', d, ?_, hr, hs, hk, ⟨hi, hff⟩, hq⟩
  have hd : (cs.drop 36).length = 1 := by rw [List.length_drop, hl]
  have e2 : cs.drop 36 = [.slice B m' d] := (List.take_of_length_le (Nat.le_of_eq hd)).symm.trans e1
  rw [bunC_list]
  refine (List.take_append_drop 36 cs).symm.trans ?_
  rw [e2]
  exact congrArg (· ++ [Value.slice B m' d]) e0
set_option maxRecDepth 100000 in
set_option maxHeartbeats 2000000 in
theorem bundleTells_lifted (os : Os) (started : os.Started) (H : Type) (enc : TypeId × Value → H) :
    ReturnsInHanded {} Try.checked os 11 .any (Rows.bundleTellsSpec.pre6 enc Try.prog Try.f11 Rows.bundleTellsRow.domain false) (Rows.bundleTellsSpec.post enc Try.prog Try.f11 false true false false) := by
  refine returnsInHanded_of_change_sized (C := Try.checked) ownKnob1 started (by kernel_rfl) Try.func11
    (ChangeSpec.witness6 (enc := enc) (C := Try.checked) false ⟨#[], #[.agg #[.int .u64 0, .string ByteArray.empty, .slice none 0 0, .bool false, .int .u8 0, .int .u8 0, .int .u8 0, .int .u8 0, .int .u8 0, .int .u8 0, .int .u8 0, .int .u8 0, .int .u8 0, .int .u8 0, .int .u8 0, .int .u8 0, .int .u8 0, .int .u8 0, .int .u8 0, .int .u8 0, .int .u8 0, .int .u8 0, .int .u8 0, .int .u8 0, .int .u8 0, .int .u8 0, .int .u8 0, .int .u8 0, .int .u8 0, .int .u8 0, .int .u8 0, .int .u8 0, .int .u8 0, .int .u8 0, .int .u8 0, .int .u8 0, .slice none 0 0], .agg #[.int .u64 0, .string ByteArray.empty, .slice none 0 0, .bool false, .int .u8 0, .int .u8 0, .int .u8 0, .int .u8 0, .int .u8 0, .int .u8 0, .int .u8 0, .int .u8 0, .int .u8 0, .int .u8 0, .int .u8 0, .int .u8 0, .int .u8 0, .int .u8 0, .int .u8 0, .int .u8 0, .int .u8 0, .int .u8 0, .int .u8 0, .int .u8 0, .int .u8 0, .int .u8 0, .int .u8 0, .int .u8 0, .int .u8 0, .int .u8 0, .int .u8 0, .int .u8 0, .int .u8 0, .int .u8 0, .int .u8 0, .int .u8 0, .slice none 0 0], .slice none 0 0], []⟩ 8 (by kernel_rfl) (by kernel_rfl) (by kernel_rfl) (by kernel_rfl)) ?_
  intro W base args ds gs before hval0 hW hcnd hwt _
  have hval : ∀ (j : Nat) t v, Try.f11.params[j]? = some t → args[j]? = some v → Value.okWide Try.prog W .any base t v := hval0
  have hW' := hW
  obtain ⟨p, q, hA0, hV, rfl, hfz, hnd⟩ := hW
  have hA : DataW.TrodAll enc Try.prog W 0 (fun _ => true) true Try.f11.params.toList args.toList ds p := hA0
  have hw2 : (DataW.weightsEach Try.prog (Try.f11.params.toList ++ Rows.bundleTellsSpec.plain.varTypes Try.prog) (ds ++ gs)).all (· ≤ reachBytes) = true := hwt
  rw [Try.params11] at hA hval hw2
  obtain ⟨v0, v1, v2, d0, d1, d2, p0, p1, p2, rfl, rfl, rfl, ⟨n0, h0⟩, ⟨n1, h1⟩, ⟨n2, h2⟩⟩ := trodAll_three hA
  obtain ⟨rfl, rfl⟩ := trodVars_none hV
  have g0 := each_part (j := 0) (t := 70) (d := d0) hw2 rfl rfl
  have g1 := each_part (j := 1) (t := 70) (d := d1) hw2 rfl rfl
  obtain ⟨C0, rfl, -⟩ := okWide_struct Try.underlying70 (hval 0 70 v0 rfl rfl)
  obtain ⟨C1, rfl, -⟩ := okWide_struct Try.underlying70 (hval 1 70 v1 rfl rfl)
  obtain ⟨A2, l2, c2, rfl⟩ := okWide_slice Try.underlying60 (hval 2 60 v2 rfl rfl)
  obtain ⟨x, A, n, c, B, m, d, e0, hr1, hr2, hk, hf1, hf2⟩ := open_bun_s _ _ _ h0 g0
  obtain ⟨y, C, n', c', D, m', d', e1, hs1, hs2, hk', hf3, hf4⟩ := open_bun_s _ _ _ h1 g1
  obtain ⟨A3, l3, c3, xs, e2, hx⟩ := trod_row (d := kU8) Try.underlying60 (by kernel_rfl) (by decide) u8_open h2
  obtain rfl := Array.toList_inj.1 (show C0.toList = _ from e0)
  obtain rfl := Array.toList_inj.1 (show C1.toList = _ from e1)
  obtain ⟨rfl, rfl, rfl⟩ : A2 = A3 ∧ l2 = l3 ∧ c2 = c3 := by simpa [Value.cells] using e2
  clear hA0 hval0 h0 h1 h2
  refine (c_btells x y A B C D _ n c m d n' c' m' d' _ _ xs (· < W.heap.size) W hr1 hr2 hs1 hs2 hx hk hf1 hf2 hf3 hf4).mono fun e W' ⟨he, hg⟩ => ?_
  subst he
  exact ⟨_, rfl, post_true laidOut1 (by kernel_rfl) (by kernel_rfl) Try.underlying4 rfl hW' rfl hg⟩

theorem bundleTells_proved : Rows.BundleTellsSaid :=
  OpenClaim.holds_of_wide 11 Try.f11 rfl rfl rfl rfl rfl rfl rfl ⟨rfl, rfl, rfl, rfl, rfl⟩ rfl rfl rfl rfl rfl (by kernel_rfl) Try.func11 (by kernel_rfl)
    (of_decide_eq_true (by kernel_rfl)) (by unfold Func.isWrapper; first | (rw [if_pos (by decide +kernel)]; kernel_rfl) | (rw [if_neg (by decide +kernel)]; exact ⟨rfl, rfl⟩))
    (fun os started H enc _ => bundleTells_lifted os started H enc)
end Go.Proofs.Ytlfhbnajopekpaa
