/- The statement KeysDead: acts in memory, the plain law, the walk. No condition. -/
import Derived.Test.YtlfhbnajopekpaaKey6
namespace Go.Proofs.Ytlfhbnajopekpaa
open Go.RowKit
open Go.Maps (Keyed)
attribute [local go_sem ↓] ld32 ld35 ld38
attribute [local go_sem] run_ldAgg run_storeAgg agg_alloc_at agg_alloc_past agg_drew agg_setCell row_alloc_at row_alloc_past row_drew setRow_alloc_at setRow_alloc_past setRow_drew agg_setRow_at agg_setRow_far cell_setRow_at cell_setRow_far row_setRow_far size_setRow tgC_size tgC_one tgC_part tgC_splice tgC_splice_any zero_tg tgC_ne keyC_size keyC_g0 keyC_g33 keyC_g34 keyC_0 keyC_33 keyC_34 keyC_part keyC_tag keyC_splice0 keyC_set33 keyC_set34 zero_key keyC_all keyC_ne
attribute [local go_sem] tg_1 tg_2 tg_7 tg_8
/-- Something done. -/
structure Ac where
  kind : Int
  whose : Int
  num : Nat
  tag : Tg
  til : Nat
  grace : Nat
  clk : Nat
def Ac.ok (x : Ac) : Prop := x.num < 18446744073709551616 ∧ x.til < 18446744073709551616
def actC (a b c u v y : Value) (t : Tg) : Array Value := midC [a, b, c] [u, v, y] t
section
variable (a b c u v y : Value) (t : Tg)
theorem actC_size : (actC a b c u v y t).size = 38 := midC_size _ _ _
theorem actC_0 : (actC a b c u v y t)[0]? = some a := midC_left [a, b, c] [u, v, y] t (i := 0) (Nat.zero_lt_succ 2)
theorem actC_1 : (actC a b c u v y t)[1]? = some b := midC_left [a, b, c] [u, v, y] t (i := 1) (Nat.lt_of_lt_of_le (Nat.lt_succ_self 1) (Nat.le_succ 2))
theorem actC_2 : (actC a b c u v y t)[2]? = some c := midC_left [a, b, c] [u, v, y] t (i := 2) (Nat.lt_succ_self 2)
theorem actC_35 : (actC a b c u v y t)[35]? = some u := midC_right [a, b, c] [u, v, y] t (i := 35) (Nat.le_refl _)
theorem actC_36 : (actC a b c u v y t)[36]? = some v := midC_right [a, b, c] [u, v, y] t (i := 36) (Nat.le_succ _)
theorem actC_37 : (actC a b c u v y t)[37]? = some y := midC_right [a, b, c] [u, v, y] t (i := 37) (Nat.le_add_right 35 2)
theorem actC_part : part? (actC a b c u v y t) 0 38 = some (actC a b c u v y t) := midC_part _ _ _
theorem actC_tag : part? (actC a b c u v y t) 3 32 = some (tgC t) := midC_tag _ _ _
theorem actC_splice0 (C : Array Value) (h : C.size = 38) : splice C 0 (actC a b c u v y t) = actC a b c u v y t := midC_splice0 _ _ _ C h
theorem zero_act : (#[a, b, c, .int .u8 0, .int .u8 0, .int .u8 0, .int .u8 0, .int .u8 0, .int .u8 0, .int .u8 0, .int .u8 0, .int .u8 0, .int .u8 0, .int .u8 0, .int .u8 0, .int .u8 0, .int .u8 0, .int .u8 0, .int .u8 0, .int .u8 0, .int .u8 0, .int .u8 0, .int .u8 0, .int .u8 0, .int .u8 0, .int .u8 0, .int .u8 0, .int .u8 0, .int .u8 0, .int .u8 0, .int .u8 0, .int .u8 0, .int .u8 0, .int .u8 0, .int .u8 0, u, v, y] : Array Value) = actC a b c u v y Tg.zero := by
  simp only [actC, midC, tgC, Tg.zero, List.replicate, List.map, bv0, List.toList_toArray, List.cons_append, List.nil_append]
theorem actC_all (k1 k2 k3 k4 k5 k6 : IntKind) (n1 n2 n3 n4 n5 n6 : Int) : oneAll (actC (.int k1 n1) (.int k2 n2) (.int k3 n3) (.int k4 n4) (.int k5 n5) (.int k6 n6) t) = true := by
  rw [oneAll, Array.all_eq_true_iff_forall_mem]
  intro x hx
  simp only [actC, midC, List.mem_toArray, List.mem_append, List.mem_cons, List.not_mem_nil, or_false] at hx
  rcases hx with ((rfl | rfl | rfl) | hx) | (rfl | rfl | rfl)
  all_goals first | rfl | exact (Array.all_eq_true_iff_forall_mem.1 (tgC_one t)) x (by simpa using hx)
theorem actC_ne : (actC a b c u v y t = #[]) = False := eq_false fun h => by
  have := congrArg Array.size h
  rw [actC_size] at this
  cases this
end
theorem actC_g0 (a b c u v y : Value) (t : Tg) (h : 0 < (actC a b c u v y t).size) : (actC a b c u v y t)[0]'h = a := by
  have := actC_0 a b c u v y t
  rw [Array.getElem?_eq_getElem h] at this
  exact Option.some.inj this
theorem actC_g1 (a b c u v y : Value) (t : Tg) (h : 1 < (actC a b c u v y t).size) : (actC a b c u v y t)[1]'h = b := by
  have := actC_1 a b c u v y t
  rw [Array.getElem?_eq_getElem h] at this
  exact Option.some.inj this
theorem actC_g2 (a b c u v y : Value) (t : Tg) (h : 2 < (actC a b c u v y t).size) : (actC a b c u v y t)[2]'h = c := by
  have := actC_2 a b c u v y t
  rw [Array.getElem?_eq_getElem h] at this
  exact Option.some.inj this
theorem actC_g35 (a b c u v y : Value) (t : Tg) (h : 35 < (actC a b c u v y t).size) : (actC a b c u v y t)[35]'h = u := by
  have := actC_35 a b c u v y t
  rw [Array.getElem?_eq_getElem h] at this
  exact Option.some.inj this
theorem actC_g36 (a b c u v y : Value) (t : Tg) (h : 36 < (actC a b c u v y t).size) : (actC a b c u v y t)[36]'h = v := by
  have := actC_36 a b c u v y t
  rw [Array.getElem?_eq_getElem h] at this
  exact Option.some.inj this
theorem actC_g37 (a b c u v y : Value) (t : Tg) (h : 37 < (actC a b c u v y t).size) : (actC a b c u v y t)[37]'h = y := by
  have := actC_37 a b c u v y t
  rw [Array.getElem?_eq_getElem h] at this
  exact Option.some.inj this

attribute [local go_sem] actC_size actC_0 actC_1 actC_2 actC_35 actC_36 actC_37 actC_g0 actC_g1 actC_g2 actC_g35 actC_g36 actC_g37 actC_part actC_tag actC_splice0 zero_act actC_all actC_ne
abbrev acC (x : Ac) : Array Value := actC (.int .i64 x.kind) (.int .i64 x.whose) (.int .u64 (x.num : Int)) (.int .u64 (x.til : Int)) (.int .u64 (x.grace : Int)) (.int .u64 (x.clk : Int)) x.tag
def kAct : Kd Ac where
  sz := 38
  K _ _ x cs := cs = (acC x).toList ∧ x.ok
  len := by rintro _ _ x cs ⟨rfl, _⟩; rw [Array.length_toList, actC_size]
  one := by
    rintro _ _ x cs ⟨rfl, _⟩ u hu
    exact (Array.all_eq_true_iff_forall_mem.1 (actC_all x.tag .i64 .i64 .u64 .u64 .u64 .u64 x.kind x.whose x.num x.til x.grace x.clk)) u (by simpa using hu)
  keep _ h := h
  more _ h := h
  bound h := h
theorem act_size : (Try.prog.info? 54).map (·.size) = some kAct.sz := by kernel_rfl

/-! ### the plain law -/
structure Dead (S : Ks) (m : Nat) : Prop where
  most : S.most = 20
  few : S.s ≤ 20
  two : 2 ≤ S.last
  last : S.last ≤ m
  none : ∀ j, S.last < j → S.F j = none
  one : ∀ x, S.F 1 = some x → x.rev = true
  til : ∀ x, S.F 2 = some x → x.til ≤ 50
theorem Dead.mono {S : Ks} {m m' : Nat} (h : Dead S m) (hm : m ≤ m') : Dead S m' := { h with last := Nat.le_trans h.last hm }
theorem Dead.make {S : Ks} {m : Nat} (h : Dead S m) (kind : Int) (t : Tg) (til : Nat) : Dead (S.make kind t til).1 (m + 1) := by
  unfold Ks.make
  split
  · split
    · exact h.mono (Nat.le_succ _)
    · have h2 := h.two
      have h3 := h.last
      have h4 := h.most
      have h5 := h.none (S.last + 1) (Nat.lt_succ_self _)
      refine ⟨h.most, ?_, by show 2 ≤ S.last + 1; omega, by show S.last + 1 ≤ m + 1; omega, fun j hj => ?_, fun x hx => ?_, fun x hx => ?_⟩
      · show (if (S.F (S.last + 1)).isSome = true then S.s else S.s + 1) ≤ 20
        rw [h5]
        simp
        omega
      · have hj : S.last + 1 < j := hj
        show (if j = S.last + 1 then _ else S.F j) = _
        rw [if_neg (by omega)]
        exact h.none j (by omega)
      · have hx : (if 1 = S.last + 1 then _ else S.F 1) = some x := hx
        rw [if_neg (by omega)] at hx
        exact h.one x hx
      · have hx : (if 2 = S.last + 1 then _ else S.F 2) = some x := hx
        rw [if_neg (by omega)] at hx
        exact h.til x hx
  · exact h.mono (Nat.le_succ _)
theorem Dead.set {S : Ks} {m k : Nat} {x y : Ky} (h : Dead S m) (hF : S.F k = some x) (h1 : k = 1 → y.rev = true) (h2 : k = 2 → y.til ≤ 50) : Dead ⟨S.most, S.last, fun j => if j = k then some y else S.F j, S.s⟩ m := by
  have hk : k ≤ S.last := by
    rcases Nat.lt_or_ge S.last k with h' | h'
    · rw [h.none k h'] at hF; cases hF
    · exact h'
  refine ⟨h.most, h.few, h.two, h.last, fun j hj => ?_, fun z hz => ?_, fun z hz => ?_⟩
  · have hj : S.last < j := hj
    show (if j = k then _ else S.F j) = _
    rw [if_neg (by omega)]
    exact h.none j hj
  · have hz : (if 1 = k then some y else S.F 1) = some z := hz
    split at hz
    · rename_i e
      rw [← Option.some.inj hz]
      exact h1 e.symm
    · exact h.one z hz
  · have hz : (if 2 = k then some y else S.F 2) = some z := hz
    split at hz
    · rename_i e
      rw [← Option.some.inj hz]
      exact h2 e.symm
    · exact h.til z hz
theorem Dead.revoke {S : Ks} {m : Nat} (h : Dead S m) (k : Nat) : Dead (S.revoke k).1 m := by
  unfold Ks.revoke
  split
  · exact h
  · rename_i x hF
    split
    · exact h
    · exact h.set hF (fun _ => rfl) (fun e => h.til x (e ▸ hF))
theorem Dead.rotate {S : Ks} {m : Nat} (h : Dead S m) (k : Nat) (t : Tg) (til grace clock : Nat) : Dead (S.rotate k t til grace clock).1 (m + 1) := by
  unfold Ks.rotate
  split
  · exact h.mono (Nat.le_succ _)
  · rename_i x hF
    split
    · rename_i hl
      have hm := h.make x.kind t til
      split
      · obtain ⟨y, hy⟩ := Option.isSome_iff_exists.1 (make_keeps (S := S) (kind := x.kind) (t := t) (til := til) (k := k) (by rw [hF]; rfl))
        refine hm.set hy (fun e => ?_) (fun e => ?_)
        · subst e
          have := h.one x hF
          simp [Ky.live, this] at hl
        · subst e
          exact Nat.le_trans (Nat.min_le_left _ _) (h.til x hF)
      · exact hm
    · exact h.mono (Nat.le_succ _)
theorem Dead.purge {S : Ks} {m s' clock : Nat} (h : Dead S m) (hs : s' ≤ S.s) : Dead ⟨S.most, S.last, fun j => (S.F j).filter fun x => x.live clock, s'⟩ m :=
  ⟨h.most, Nat.le_trans hs h.few, h.two, h.last, fun j hj => by show Option.filter _ (S.F j) = _; rw [h.none j hj]; rfl, fun x hx => h.one x (Option.filter_eq_some_iff.1 hx).1, fun x hx => h.til x (Option.filter_eq_some_iff.1 hx).1⟩
theorem Dead.find1 {S : Ks} {m : Nat} (h : Dead S m) (clock : Nat) : ¬ (S.find 1 1 clock).2 = 0 := by
  unfold Ks.find
  split
  · decide
  · rename_i x hF
    rw [if_pos (h.one x hF)]
    split <;> decide
theorem Dead.find2 {S : Ks} {m : Nat} (h : Dead S m) {clock : Nat} (hf : (S.find 1 2 clock).2 = 0) : clock < 50 := by
  unfold Ks.find at hf
  split at hf
  · cases hf
  · rename_i x hF
    have := h.til x hF
    split at hf
    · split at hf
      · cases hf
      · split at hf
        · omega
        · cases hf
    · cases hf
theorem find_later {S : Ks} {c c' : Nat} (hc : c ≤ c') (hf : (S.find 1 2 c').2 = 0) : (S.find 1 2 c).2 = 0 := by
  unfold Ks.find at hf ⊢
  cases hF : S.F 2 with
  | none => rw [hF] at hf; cases hf
  | some x =>
    rw [hF] at hf
    simp only at hf ⊢
    split at hf
    · split at hf
      · cases hf
      · split at hf
        · rw [if_pos ‹_›, if_neg ‹_›, if_pos (by omega)]
        · cases hf
    · cases hf
end Go.Proofs.Ytlfhbnajopekpaa
