/- The statement KeysDead, for every input. No condition. -/
import Derived.Test.YtlfhbnajopekpaaRows
import Derived.Test.YtlfhbnajopekpaaRow
import Derived.Test.YtlfhbnajopekpaaKey8
namespace Go.Proofs.Ytlfhbnajopekpaa
open Go.ChangeShapes Go.WideShapes Go.ChangeAt Go.RowKit
theorem laidOutK : laidOutB Try.prog = true := by kernel_rfl
theorem ownKnobK : ownKnob Try.prog.godebug = none := by kernel_rfl
theorem len3K {cs : List Value} (h : cs.length = 3) : ∃ a b c, cs = [a, b, c] := by
  match cs, h with
  | [a, b, c], _ => exact ⟨a, b, c, rfl⟩
theorem split3K {cs : List Value} (h : 3 ≤ cs.length) : ∃ a b c r, cs = a :: b :: c :: r := by
  match cs, h with
  | a :: b :: c :: r, _ => exact ⟨a, b, c, r, rfl⟩
theorem open_tagK {H : Type} {enc : TypeId × Value → H} {w : World} {spare : Nat → Bool} {held : Bool} (n : Nat) (cs : List Value) (x : DataW H × List MemPlace) (h : DataW.trod enc Try.prog w 0 spare held n 44 cs = some x) :
    ∃ t : Tg, cs = (tgC t).toList := by
  obtain ⟨xs, m, rfl, -, hl, hx, hf⟩ := DataW.trod_array Try.underlying44 h
  have c32 : Try.prog.cellsOf 44 = 32 := by kernel_rfl
  have c1 : Try.prog.cellsOf 5 = 1 := by kernel_rfl
  rw [c32] at hl
  rw [c1] at hf
  have hb : ∀ i, i < 32 → ∃ b : UInt8, cs[i]? = some (bv b) := fun i hi => by
    have h1 := hf i hi
    rw [List.getElem?_eq_getElem (by omega)] at h1
    obtain ⟨k, e, -, hk⟩ := DataW.trod_int Try.underlying5 h1
    simp [Lit.wf, IntKind.min, IntKind.max, IntKind.signed, IntKind.bits] at hk
    obtain ⟨b, rfl⟩ : ∃ b : UInt8, (b.toNat : Int) = k := ⟨UInt8.ofNat k.toNat, by simp; omega⟩
    refine ⟨b, ?_⟩
    have := congrArg (·[0]?) e
    simpa [List.getElem?_take, List.getElem?_drop] using this
  obtain ⟨bs, hbl, hbs⟩ := list_of 32 hb
  refine ⟨⟨bs, hbl⟩, ?_⟩
  apply List.ext_getElem?
  intro i
  by_cases hi : i < 32
  · rw [hbs i _ (List.getElem?_eq_getElem (by omega))]
    simp [tgC, List.getElem?_eq_getElem (show i < bs.length by omega)]
  · rw [List.getElem?_eq_none (by omega), List.getElem?_eq_none (by simp [tgC]; omega)]
theorem split38 {cs : List Value} (h : cs.length = 38) : ∃ a b c r u v y, r.length = 32 ∧ cs = a :: b :: c :: (r ++ [u, v, y]) := by
  obtain ⟨a, b, c, s, rfl⟩ := split3K (cs := cs) (by omega)
  have hs : s.length = 35 := by simpa using h
  obtain ⟨u, v, y, e⟩ := len3K (cs := s.drop 32) (by rw [List.length_drop]; omega)
  refine ⟨a, b, c, s.take 32, u, v, y, by rw [List.length_take]; omega, ?_⟩
  rw [← e, List.take_append_drop]
theorem u64_of {k : Int} (hk : (Lit.int .u64 k).wf) : ∃ m : Nat, k = m ∧ m < 18446744073709551616 := by
  simp [Lit.wf, IntKind.min, IntKind.max, IntKind.signed, IntKind.bits] at hk
  exact ⟨k.toNat, by omega, by omega⟩
theorem open_act {H : Type} {enc : TypeId × Value → H} {w : World} {spare : Nat → Bool} {held : Bool} (n : Nat) (cs : List Value) (x : DataW H × List MemPlace) (h : DataW.trod enc Try.prog w 0 spare held n 54 cs = some x) :
    ∃ y, kAct.K (· < w.heap.size) w y cs := by
  obtain ⟨xs, m, rfl, -, hl, hx, hf⟩ := DataW.trod_struct Try.underlying54 h
  have c38 : Try.prog.cellsOf 54 = 38 := by kernel_rfl
  rw [c38] at hl
  have hxs : xs.length = 7 := hx
  have ci : Try.prog.cellsOf 3 = 1 := by kernel_rfl
  have cu : Try.prog.cellsOf 39 = 1 := by kernel_rfl
  have ct : Try.prog.cellsOf 44 = 32 := by kernel_rfl
  obtain ⟨a, b, c, r, u, v, y, hr, rfl⟩ := split38 hl
  have h0 := hf 0 _ rfl
  have h1 := hf 1 _ rfl
  have h2 := hf 2 _ rfl
  have h3 := hf 3 _ rfl
  have h4 := hf 4 _ rfl
  have h5 := hf 5 _ rfl
  have h6 := hf 6 _ rfl
  rw [List.getElem?_eq_getElem (by omega)] at h0 h1 h2 h3 h4 h5 h6
  obtain ⟨k0, e0, -, hk0⟩ := DataW.trod_int Try.underlying3 h0
  obtain ⟨k1, e1, -, hk1⟩ := DataW.trod_int Try.underlying3 h1
  obtain ⟨k2, e2, -, hk2⟩ := DataW.trod_int Try.underlying39 h2
  obtain ⟨tg, e3⟩ := open_tagK _ _ _ h3
  obtain ⟨k4, e4, -, hk4⟩ := DataW.trod_int Try.underlying39 h4
  obtain ⟨k5, e5, -, hk5⟩ := DataW.trod_int Try.underlying39 h5
  obtain ⟨k6, e6, -, hk6⟩ := DataW.trod_int Try.underlying39 h6
  obtain ⟨n2, rfl, l2⟩ := u64_of hk2
  obtain ⟨n4, rfl, l4⟩ := u64_of hk4
  obtain ⟨n5, rfl, l5⟩ := u64_of hk5
  obtain ⟨n6, rfl, l6⟩ := u64_of hk6
  have d35 : List.drop 35 (a :: b :: c :: (r ++ [u, v, y])) = [u, v, y] := by
    show List.drop 32 (r ++ [u, v, y]) = _
    rw [← hr, List.drop_left]
  have d36 : List.drop 36 (a :: b :: c :: (r ++ [u, v, y])) = [v, y] := by
    rw [show (36 : Nat) = 35 + 1 from rfl, ← List.drop_drop, d35]; rfl
  have d37 : List.drop 37 (a :: b :: c :: (r ++ [u, v, y])) = [y] := by
    rw [show (37 : Nat) = 35 + 2 from rfl, ← List.drop_drop, d35]; rfl
  simp [ci] at e0 e1
  simp [cu] at e2
  have e4' : List.take (Try.prog.cellsOf 39) (List.drop 35 (a :: b :: c :: (r ++ [u, v, y]))) = [.int .u64 (n4 : Int)] := e4
  have e5' : List.take (Try.prog.cellsOf 39) (List.drop 36 (a :: b :: c :: (r ++ [u, v, y]))) = [.int .u64 (n5 : Int)] := e5
  have e6' : List.take (Try.prog.cellsOf 39) (List.drop 37 (a :: b :: c :: (r ++ [u, v, y]))) = [.int .u64 (n6 : Int)] := e6
  rw [cu, d35] at e4'
  rw [cu, d36] at e5'
  rw [cu, d37] at e6'
  simp at e4' e5' e6'
  have e3a : List.take (Try.prog.cellsOf 44) (List.drop 3 (a :: b :: c :: (r ++ [u, v, y]))) = (tgC tg).toList := e3
  have e3' : r = (tgC tg).toList := by
    rw [← e3a, ct]
    show r = List.take 32 (r ++ [u, v, y])
    rw [← hr, List.take_left]
  subst e0 e1 e2 e3' e4' e5' e6'
  refine ⟨⟨k0, k1, n2, tg, n4, n5, n6⟩, ?_, l2, l4⟩
  simp [actC, midC]

set_option maxRecDepth 100000 in
set_option maxHeartbeats 2000000 in
theorem keysDead_lifted (os : Os) (started : os.Started) (H : Type) (enc : TypeId × Value → H) :
    ReturnsInHanded {} Try.checked os 5 .any (Rows.keysDeadSpec.pre6 enc Try.prog Try.f5 Rows.keysDeadRow.domain false) (Rows.keysDeadSpec.post enc Try.prog Try.f5 false true false false) := by
  refine returnsInHanded_of_change (C := Try.checked) ownKnobK started (by kernel_rfl) Try.func5
    (ChangeSpec.witness6 (enc := enc) (C := Try.checked) false ⟨#[], #[.slice none 0 0, .int .u64 0, .int .u64 0], []⟩ 8 (by kernel_rfl) (by kernel_rfl) (by kernel_rfl) (by kernel_rfl)) ?_
  intro W base args ds gs before hval0 hW hcnd _
  have hval : ∀ (j : Nat) t v, Try.f5.params[j]? = some t → args[j]? = some v → Value.okWide Try.prog W .any base t v := hval0
  have hW' := hW
  obtain ⟨p, q, hA0, hV, rfl, hfz, hnd⟩ := hW
  have hA : DataW.TrodAll enc Try.prog W 0 (fun _ => true) true Try.f5.params.toList args.toList ds p := hA0
  rw [Try.params5] at hA hval
  obtain ⟨v0, v1, v2, d0, d1, d2, p0, p1, p2, rfl, rfl, rfl, ⟨n0, h0⟩, h1, h2⟩ := trodAll_three hA
  obtain ⟨rfl, rfl⟩ := trodVars_none hV
  obtain ⟨A0, n0', c0, rfl⟩ := okWide_slice Try.underlying52 (hval 0 52 v0 rfl rfl)
  obtain ⟨A, n, c, xs, e0, hr⟩ := trod_row (d := kAct) Try.underlying52 (by kernel_rfl) (by decide) open_act h0
  obtain ⟨a1, rfl, rfl, rfl, w1⟩ := open_int Try.underlying39 (hval 1 39 v1 rfl rfl) h1
  obtain ⟨a2, rfl, rfl, rfl, w2⟩ := open_int Try.underlying39 (hval 2 39 v2 rfl rfl) h2
  obtain ⟨m1, rfl, l1⟩ := u64_of w1
  obtain ⟨m2, rfl, l2⟩ := u64_of w2
  obtain ⟨rfl, rfl, rfl⟩ : A0 = A ∧ n0' = n ∧ c0 = c := by simpa [Value.cells] using e0
  clear hA0 hval0 h0
  refine (c_kdead _ _ _ xs m1 m2 (· < W.heap.size) W hr l1 l2).mono fun e W' ⟨he, hg⟩ => ?_
  subst he
  exact ⟨_, rfl, post_true laidOutK (by kernel_rfl) (by kernel_rfl) Try.underlying4 rfl hW' rfl hg⟩

theorem keysDead_proved : Rows.KeysDeadSaid :=
  OpenClaim.holds_of_wide 5 Try.f5 rfl rfl rfl rfl rfl rfl rfl ⟨rfl, rfl, rfl, rfl, rfl⟩ rfl rfl rfl rfl rfl (by kernel_rfl) Try.func5 (by kernel_rfl)
    (of_decide_eq_true (by kernel_rfl)) (by unfold Func.isWrapper; first | (rw [if_pos (by decide +kernel)]; kernel_rfl) | (rw [if_neg (by decide +kernel)]; exact ⟨rfl, rfl⟩))
    (fun os started H enc _ => keysDead_lifted os started H enc)
end Go.Proofs.Ytlfhbnajopekpaa
