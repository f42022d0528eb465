/- The statement PacketBack, for every input. No condition. -/
import Derived.Test.YtlfhbnajopekpaaRows
import Derived.Test.YtlfhbnajopekpaaRow
import Derived.Test.YtlfhbnajopekpaaPkt10
namespace Go.Proofs.Ytlfhbnajopekpaa
open Go.ChangeShapes Go.WideShapes Go.ChangeAt Go.RowKit

theorem len5 {cs : List Value} (h : cs.length = 5) : ∃ a b c d e, cs = [a, b, c, d, e] := by
  match cs, h with
  | [a, b, c, d, e], _ => exact ⟨a, b, c, d, e, rfl⟩
theorem open_cav {H : Type} {enc : TypeId × Value → H} {w : World} {spare : Nat → Bool} {held : Bool} (n : Nat) (cs : List Value) (x : DataW H × List MemPlace) (h : DataW.trod enc Try.prog w 0 spare held n 85 cs = some x) :
    ∃ y, kCav.K (· < w.heap.size) w y cs := by
  obtain ⟨xs, m, rfl, -, hl, hx, hf⟩ := DataW.trod_struct Try.underlying85 h
  have c5 : Try.prog.cellsOf 85 = 5 := by kernel_rfl
  rw [c5] at hl
  obtain ⟨v0, v1, v2, v3, v4, rfl⟩ := len5 hl
  have hxs : xs.length = 5 := hx
  have c9 : Try.prog.cellsOf 9 = 1 := by kernel_rfl
  have c4 : Try.prog.cellsOf 4 = 1 := by kernel_rfl
  have c39 : Try.prog.cellsOf 39 = 1 := by kernel_rfl
  have h0 := hf 0 _ rfl
  have h1 := hf 1 _ rfl
  have h2 := hf 2 _ rfl
  have h3 := hf 3 _ rfl
  have h4 := hf 4 _ rfl
  rw [List.getElem?_eq_getElem (by omega)] at h0 h1 h2 h3 h4
  obtain ⟨b, e0, -⟩ := DataW.trod_bool Try.underlying4 h0
  obtain ⟨s1, e1, -, hs1⟩ := DataW.trod_string Try.underlying9 h1
  obtain ⟨k, e2, -, hk⟩ := DataW.trod_int Try.underlying39 h2
  obtain ⟨s3, e3, -, hs3⟩ := DataW.trod_string Try.underlying9 h3
  obtain ⟨s4, e4, -, hs4⟩ := DataW.trod_string Try.underlying9 h4
  simp [c4] at e0
  simp [c9] at e1 e3 e4
  simp [c39] at e2
  subst e0 e1 e2 e3 e4
  simp [Lit.wf, IntKind.min, IntKind.max, IntKind.signed, IntKind.bits] at hk
  obtain ⟨m, rfl⟩ : ∃ m : Nat, k = m := ⟨k.toNat, by omega⟩
  exact ⟨⟨b, s1, m, s3, s4⟩, rfl, hs1, by show m < _; omega, hs3, hs4⟩
theorem open_tag {H : Type} {enc : TypeId × Value → H} {w : World} {spare : Nat → Bool} {held : Bool} (n : Nat) (cs : List Value) (x : DataW H × List MemPlace) (h : DataW.trod enc Try.prog w 0 spare held n 44 cs = some x) :
    ∃ t : Tg, cs = (tgC t).toList := by
  obtain ⟨xs, m, rfl, -, hl, hx, hf⟩ := DataW.trod_array Try.underlying44 h
  have c32 : Try.prog.cellsOf 44 = 32 := by kernel_rfl
  have c1 : Try.prog.cellsOf 5 = 1 := by kernel_rfl
  rw [c32] at hl
  rw [c1] at hf
  have hb : ∀ i, i < 32 → ∃ b : UInt8, cs[i]? = some (bv b) := fun i hi => by
    have h1 := hf i hi
    rw [List.getElem?_eq_getElem (by omega)] at h1
    obtain ⟨k, e, -, hk⟩ := DataW.trod_int Try.underlying5 h1
    simp [Lit.wf, IntKind.min, IntKind.max, IntKind.signed, IntKind.bits] at hk
    obtain ⟨b, rfl⟩ : ∃ b : UInt8, (b.toNat : Int) = k := ⟨UInt8.ofNat k.toNat, by simp; omega⟩
    refine ⟨b, ?_⟩
    have := congrArg (·[0]?) e
    simpa [List.getElem?_take, List.getElem?_drop] using this
  obtain ⟨bs, hbl, hbs⟩ := list_of 32 hb
  refine ⟨⟨bs, hbl⟩, ?_⟩
  apply List.ext_getElem?
  intro i
  by_cases hi : i < 32
  · rw [hbs i _ (List.getElem?_eq_getElem (by omega))]
    simp [tgC, List.getElem?_eq_getElem (show i < bs.length by omega)]
  · rw [List.getElem?_eq_none (by omega), List.getElem?_eq_none (by simp [tgC]; omega)]
theorem split4 {cs : List Value} (h : 4 ≤ cs.length) : ∃ a b c d r, cs = a :: b :: c :: d :: r := by
  match cs, h with
  | a :: b :: c :: d :: r, _ => exact ⟨a, b, c, d, r, rfl⟩
theorem open_tok {H : Type} {enc : TypeId × Value → H} {w : World} {spare : Nat → Bool} {held : Bool} (n : Nat) (cs : List Value) (x : DataW H × List MemPlace) (h : DataW.trod enc Try.prog w 0 spare held n 59 cs = some x) :
    ∃ (t : Tok) (A : Option Addr) (l c : Nat), cs = (tokC (.int .u64 (t.key : Int)) (.string t.id) (.slice A l c) (.bool t.bnd) t.tag).toList ∧ kCav.Row (· < w.heap.size) w A l c t.cavs ∧ t.key < 18446744073709551616 ∧ t.id.size ≤ maxLen := by
  obtain ⟨xs, m, rfl, -, hl, hx, hf⟩ := DataW.trod_struct Try.underlying59 h
  have c36 : Try.prog.cellsOf 59 = 36 := by kernel_rfl
  rw [c36] at hl
  have hxs : xs.length = 5 := hx
  have c9 : Try.prog.cellsOf 9 = 1 := by kernel_rfl
  have c4 : Try.prog.cellsOf 4 = 1 := by kernel_rfl
  have c39 : Try.prog.cellsOf 39 = 1 := by kernel_rfl
  have c57 : Try.prog.cellsOf 57 = 1 := by kernel_rfl
  have c32 : Try.prog.cellsOf 44 = 32 := by kernel_rfl
  have h0 := hf 0 _ rfl
  have h1 := hf 1 _ rfl
  have h2 := hf 2 _ rfl
  have h3 := hf 3 _ rfl
  have h4 := hf 4 _ rfl
  rw [List.getElem?_eq_getElem (by omega)] at h0 h1 h2 h3 h4
  obtain ⟨k, e0, -, hk⟩ := DataW.trod_int Try.underlying39 h0
  obtain ⟨s1, e1, -, hs1⟩ := DataW.trod_string Try.underlying9 h1
  obtain ⟨A, l, c, cv, e2, hr⟩ := trod_row (d := kCav) Try.underlying57 (by kernel_rfl) (by decide) open_cav h2
  obtain ⟨b, e3, -⟩ := DataW.trod_bool Try.underlying4 h3
  obtain ⟨tg, e4⟩ := open_tag _ _ _ h4
  simp [Lit.wf, IntKind.min, IntKind.max, IntKind.signed, IntKind.bits] at hk
  obtain ⟨m, rfl⟩ : ∃ m : Nat, k = m := ⟨k.toNat, by omega⟩
  refine ⟨⟨m, s1, cv, b, tg⟩, A, l, c, ?_, hr, by show m < _; omega, hs1⟩
  obtain ⟨a0, a1, a2, a3, r, rfl⟩ := split4 (cs := cs) (by omega)
  have hlr : r.length = 32 := by simpa using hl
  simp [c39] at e0
  simp [c9] at e1
  simp [c57] at e2
  simp [c4] at e3
  have e4' : r = (tgC tg).toList := by
    rw [← e4]
    simp [c32]
    rw [List.take_of_length_le (Nat.le_of_eq hlr)]
  subst e0 e1 e2 e3 e4'
  simp [tokC]
theorem laidOut1 : laidOutB Try.prog = true := by kernel_rfl
theorem ownKnob1 : ownKnob Try.prog.godebug = none := by kernel_rfl
theorem u8_open {H : Type} {enc : TypeId × Value → H} {w : World} {spare : Nat → Bool} {held : Bool} (n : Nat) (cs : List Value) (x : DataW H × List MemPlace) (h : DataW.trod enc Try.prog w 0 spare held n 5 cs = some x) :
    ∃ y, kU8.K (· < w.heap.size) w y cs := by
  obtain ⟨k, e, -, hk⟩ := DataW.trod_int Try.underlying5 h
  simp [Lit.wf, IntKind.min, IntKind.max, IntKind.signed, IntKind.bits] at hk
  obtain ⟨b, rfl⟩ : ∃ b : UInt8, (b.toNat : Int) = k := ⟨UInt8.ofNat k.toNat, by simp; omega⟩
  exact ⟨b, e, trivial⟩
theorem row_cavs {ok : Nat → Prop} {w : World} {A : Option Addr} {n c : Nat} {xs : List Cav} (h : kCav.Row ok w A n c xs) : ∀ x ∈ xs, x.party < 18446744073709551616 := by
  intro x hx
  obtain ⟨i, hi, rfl⟩ := List.mem_iff_getElem.1 hx
  obtain ⟨b, o, _, _, _, hc⟩ := h.2.2.2 (by have := h.1; omega)
  obtain ⟨cs, hk, _⟩ := hc i _ (List.getElem?_eq_getElem hi)
  exact hk.2.2.1
set_option maxRecDepth 100000 in
set_option maxHeartbeats 2000000 in
theorem packetBack_lifted (os : Os) (started : os.Started) (H : Type) (enc : TypeId × Value → H) :
    ReturnsInHanded {} Try.checked os 6 .any (Rows.packetBackSpec.pre6 enc Try.prog Try.f6 Rows.packetBackRow.domain false) (Rows.packetBackSpec.post enc Try.prog Try.f6 false true false false) := by
  refine returnsInHanded_of_change (C := Try.checked) ownKnob1 started (by kernel_rfl) Try.func6
    (ChangeSpec.witness6 (enc := enc) (C := Try.checked) false ⟨#[], #[.agg #[.int .u64 0, .string ByteArray.empty, .slice none 0 0, .bool false, .int .u8 0, .int .u8 0, .int .u8 0, .int .u8 0, .int .u8 0, .int .u8 0, .int .u8 0, .int .u8 0, .int .u8 0, .int .u8 0, .int .u8 0, .int .u8 0, .int .u8 0, .int .u8 0, .int .u8 0, .int .u8 0, .int .u8 0, .int .u8 0, .int .u8 0, .int .u8 0, .int .u8 0, .int .u8 0, .int .u8 0, .int .u8 0, .int .u8 0, .int .u8 0, .int .u8 0, .int .u8 0, .int .u8 0, .int .u8 0, .int .u8 0, .int .u8 0], .agg #[.int .u64 0, .string ByteArray.empty, .slice none 0 0, .bool false, .int .u8 0, .int .u8 0, .int .u8 0, .int .u8 0, .int .u8 0, .int .u8 0, .int .u8 0, .int .u8 0, .int .u8 0, .int .u8 0, .int .u8 0, .int .u8 0, .int .u8 0, .int .u8 0, .int .u8 0, .int .u8 0, .int .u8 0, .int .u8 0, .int .u8 0, .int .u8 0, .int .u8 0, .int .u8 0, .int .u8 0, .int .u8 0, .int .u8 0, .int .u8 0, .int .u8 0, .int .u8 0, .int .u8 0, .int .u8 0, .int .u8 0, .int .u8 0], .slice none 0 0], []⟩ 8 (by kernel_rfl) (by kernel_rfl) (by kernel_rfl) (by kernel_rfl)) ?_
  intro W base args ds gs before hval0 hW hcnd _
  have hval : ∀ (j : Nat) t v, Try.f6.params[j]? = some t → args[j]? = some v → Value.okWide Try.prog W .any base t v := hval0
  have hW' := hW
  obtain ⟨p, q, hA0, hV, rfl, hfz, hnd⟩ := hW
  have hA : DataW.TrodAll enc Try.prog W 0 (fun _ => true) true Try.f6.params.toList args.toList ds p := hA0
  rw [Try.params6] at hA hval
  obtain ⟨v0, v1, v2, d0, d1, d2, p0, p1, p2, rfl, rfl, rfl, ⟨n0, h0⟩, ⟨n1, h1⟩, ⟨n2, h2⟩⟩ := trodAll_three hA
  obtain ⟨rfl, rfl⟩ := trodVars_none hV
  obtain ⟨C0, rfl, -⟩ := okWide_struct Try.underlying59 (hval 0 59 v0 rfl rfl)
  obtain ⟨C1, rfl, -⟩ := okWide_struct Try.underlying59 (hval 1 59 v1 rfl rfl)
  obtain ⟨A2, l2, c2, rfl⟩ := okWide_slice Try.underlying60 (hval 2 60 v2 rfl rfl)
  obtain ⟨t, A, n, c, e0, hr, hk, hi⟩ := open_tok _ _ _ h0
  obtain ⟨u, B, m, d, e1, hs, hk', hi'⟩ := open_tok _ _ _ h1
  obtain ⟨A3, l3, c3, xs, e2, hx⟩ := trod_row (d := kU8) Try.underlying60 (by kernel_rfl) (by decide) u8_open h2
  obtain rfl := Array.toList_inj.1 (show C0.toList = _ from e0)
  obtain rfl := Array.toList_inj.1 (show C1.toList = _ from e1)
  obtain ⟨rfl, rfl, rfl⟩ : A2 = A3 ∧ l2 = l3 ∧ c2 = c3 := by simpa [Value.cells] using e2
  clear hA0 hval0 h0 h1 h2
  refine (c_back t u A B _ n c m d _ _ xs (· < W.heap.size) W hr hs hx ⟨hk, row_cavs hr⟩ ⟨hk', row_cavs hs⟩).mono fun e W' ⟨he, hg⟩ => ?_
  subst he
  exact ⟨_, rfl, post_true laidOut1 (by kernel_rfl) (by kernel_rfl) Try.underlying4 rfl hW' rfl hg⟩

theorem packetBack_proved : Rows.PacketBackSaid :=
  OpenClaim.holds_of_wide 6 Try.f6 rfl rfl rfl rfl rfl rfl rfl ⟨rfl, rfl, rfl, rfl, rfl⟩ rfl rfl rfl rfl rfl (by kernel_rfl) Try.func6 (by kernel_rfl)
    (of_decide_eq_true (by kernel_rfl)) (by unfold Func.isWrapper; first | (rw [if_pos (by decide +kernel)]; kernel_rfl) | (rw [if_neg (by decide +kernel)]; exact ⟨rfl, rfl⟩))
    (fun os started H enc _ => packetBack_lifted os started H enc)
end Go.Proofs.Ytlfhbnajopekpaa
