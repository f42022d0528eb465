/- The walks of layer 24 (store) but for what reads tokens. No condition. -/
import Derived.Test.YtlfhbnajopekpaaProg
import Derived.Test.YtlfhbnajopekpaaRepB
import Derived.Test.YtlfhbnajopekpaaReg
import Derived.Deep.RegionLaw
namespace Go.Proofs.Ytlfhbnajopekpaa
open Go.RowKit

/-- What was answered. -/
structure Out where
  bytes : ByteArray
  whole : Bool
  pub : Bool
  deriving DecidableEq
def Out.cells (o : Out) : List Value := [.string o.bytes, .bool o.whole, .bool o.pub]
def kOut : Kd Out where
  sz := 3
  K _ _ o cs := cs = o.cells ∧ o.bytes.size ≤ maxLen
  len h := by rw [h.1]; rfl
  one h u hu := by
    rw [h.1] at hu
    simp [Out.cells] at hu
    rcases hu with rfl | rfl | rfl <;> rfl
  keep _ h := h
  more _ h := h
  bound h := h
theorem out_info : (Try.prog.info? 30).map (fun i => (i.zero, i.size, i.bytes)) = some (some (.agg #[.string ByteArray.empty, .bool false, .bool false]), 3, 24) := by kernel_rfl
theorem sto_mixed : Try.prog.follows .mixedOrders = true := by kernel_rfl
theorem row_out {ok ok' : Nat → Prop} {w : World} {A : Option Addr} {n c : Nat} {xs : List Out} (h : kOut.Row ok w A n c xs) (hk : ∀ k, k < w.heap.size → ok k → ok' k) : kOut.Row ok' w A n c xs := h.bound.more fun k hk' => hk k hk'.2 hk'.1
theorem src_out {ok ok' : Nat → Prop} {w : World} {A : Option Addr} {m : Nat} {xs : List Out} (h : kOut.Src ok w A m xs) : kOut.Src ok' w A m xs := let ⟨h1, css, he, hc⟩ := h; ⟨h1, css, ⟨he.1, fun i x cs hx hcs => he.2 i x cs hx hcs⟩, hc⟩

/-- A store: its struct is block g, its row the value v. -/
def StoreAt (base : Nat) (w : World) (g : Nat) (v : Value) (l : List Out) : Prop :=
  base ≤ g ∧ w.heap[g]? = some (.cells #[v] 105) ∧ kOut.Own (fun _ => True) base w 30 v l
theorem Own.typed {α : Type} {d : Kd α} {ok : Nat → Prop} {base : Nat} {w : World} {E : TypeId} {v : Value} {xs : List α} (h : d.Own ok base w E v xs) {k : Nat} (hk : v.ownBlock = some k) : ∃ cs, w.heap[k]? = some (.cells cs E (0, 0)) := by
  obtain ⟨css, _, ho⟩ := h
  rcases ho.2 with ⟨rfl, _⟩ | ⟨g, cap, cur, rfl, _, hg, _⟩
  · simp [Value.ownBlock] at hk
  · have : g = k := by simpa [Value.ownBlock] using hk
    subst this
    exact ⟨_, hg⟩
theorem StoreAt.ne {base : Nat} {w : World} {g : Nat} {v : Value} {l : List Out} (h : StoreAt base w g v l) : v.ownBlock ≠ some g := by
  intro e
  obtain ⟨cs, hc⟩ := Own.typed h.2.2 e
  rw [h.2.1] at hc
  injection hc with hc
  injection hc with _ ht
  exact absurd ht (by decide)
theorem StoreAt.keep {base : Nat} {w w' : World} {g : Nat} {v : Value} {l : List Out} (h : StoreAt base w g v l) (hk : ∀ k, k < w.heap.size → (k = g ∨ some k = v.ownBlock) → w'.heap[k]? = w.heap[k]?) : StoreAt base w' g v l := by
  obtain ⟨h1, h2, css, he, ho⟩ := h
  have hg : g < w.heap.size := by
    rcases Nat.lt_or_ge g w.heap.size with h' | h'
    · exact h'
    · rw [Array.getElem?_eq_none h'] at h2; cases h2
  refine ⟨h1, (hk g hg (.inl rfl)).trans h2, css, ⟨he.1, fun i x cs hx hc => he.2 i x cs hx hc⟩, ho.1, ?_⟩
  rcases ho.2 with hn | ⟨q, cap, cur, rfl, hb, hq, r⟩
  · exact .inl hn
  · exact .inr ⟨q, cap, cur, rfl, hb, (hk q (Array.getElem?_eq_some_iff.1 hq).1 (.inr rfl)).trans hq, r⟩
theorem StoreAt.below {base : Nat} {w w' : World} {g : Nat} {v : Value} {l : List Out} (h : StoreAt base w g v l) (hb : Below w.heap.size w w') : StoreAt base w' g v l := h.keep fun k hk _ => hb.block k hk
theorem StoreAt.lt {base : Nat} {w : World} {g : Nat} {v : Value} {l : List Out} (h : StoreAt base w g v l) : g < w.heap.size := by
  rcases Nat.lt_or_ge g w.heap.size with h' | h'
  · exact h'
  · have := h.2.1; rw [Array.getElem?_eq_none h'] at this; cases this
theorem StoreAt.lower {base base' : Nat} {w : World} {g : Nat} {v : Value} {l : List Out} (h : StoreAt base w g v l) (hb : base' ≤ base) : StoreAt base' w g v l := ⟨Nat.le_trans hb h.1, h.2.1, h.2.2.lower hb⟩
theorem StoreAt.cell {base : Nat} {w : World} {g : Nat} {v : Value} {l : List Out} (h : StoreAt base w g v l) : w.cell? ⟨g, 0, none⟩ = some v ∧ w.frozen? ⟨g, 0, none⟩ = false := by
  constructor
  · rw [cell_of_row w _ _ _ _ _ h.2.1]; rfl
  · exact frozen_of_row w _ _ _ _ h.2.1

theorem c_snew (w : World) : Calls Try.prog 13 #[] w fun e w' => e = .returned (.pointer (some ⟨w.heap.size, 0, none⟩)) ∧ StoreAt w.heap.size w' w.heap.size (.slice none 0 0) [] ∧ Below w.heap.size w w' := by
  go_enter Try.func13, Try.ntmps13
  go_wp2
  go_ret
  exact ⟨rfl, ⟨Nat.le_refl _, heap_alloc_new _ _, .nil _ _ _ _ _⟩, (Below.refl _ _).alloc (Nat.le_refl _) _⟩

theorem c_slen (base : Nat) (w : World) (g : Nat) (v : Value) (l : List Out) (h : StoreAt base w g v l) :
    Calls Try.prog 16 #[.pointer (some ⟨g, 0, none⟩)] w fun e w' => e = .returned (.int .i64 (l.length : Int)) ∧ w = w' := by
  obtain ⟨A, c, rfl⟩ := h.2.2.form
  have hc := h.cell.1
  clear h
  go_enter Try.func16, Try.ntmps16
  go_wp2
  go_ret
  exact ⟨rfl, rfl⟩

set_option maxRecDepth 100000 in
theorem c_oclone (A : Option Addr) (n c : Nat) (xs : List Out) (ok : Nat → Prop) (w : World) (hR : kOut.Row ok w A n c xs) (hn : n ≤ 1099511627776) :
    Calls Try.prog 58 #[.slice A n c] w fun e w' => ∃ v, e = .returned v ∧ kOut.Own (fun _ => True) w.heap.size w' 30 v xs ∧ Below w.heap.size w w' := by
  have heq := fun wx : World => Lib.run_eql_slice_nil (P := Try.prog) wx _ _ A n c 0 0 Try.underlying103
  have hl := hR.1
  cases A with
  | none =>
    have hx : xs = [] := by
      rcases Nat.eq_zero_or_pos n with h0 | h0
      · exact List.eq_nil_of_length_eq_zero (hl.trans h0)
      · obtain ⟨b, o, e, _⟩ := hR.2.2.2 h0; cases e
    subst hx
    clear hR hn hl
    go_enter Try.func58, Try.ntmps58
    go_wp2
    go_ret
    exact ⟨_, rfl, .nil _ _ _ _ _, Below.refl _ _⟩
  | some a =>
    have hO := Kd.Own.lit (d := kOut) (ok := fun _ => True) (base := w.heap.size) (w := w) (E := 30) (.nil _ _ _) #[] rfl 0 rfl (Nat.zero_le _) _ rfl (Nat.le_refl _)
    have HO := hide hO
    have HR := hide (row_out (ok' := fun k => True ∧ some k ≠ (Value.slice (some ⟨w.heap.size, 0, none⟩) 0 0).ownBlock) (hR.bound.alloc (.cells #[] 30)) (fun k _ hk => ⟨trivial, fun e => by simp [Value.ownBlock] at e; omega⟩))
    have HN := hide hn
    clear hR hn hO hl
    go_enter Try.func58, Try.ntmps58
    go_wp2_with (at_builtin; go_must (refine wpList_app (d := kOut) rfl _ _ _ rfl Try.underlying103 out_info rfl (by decide) c rfl rfl (.inl HO.out) HR.out.src ?_ ?_ ?_ ?_))
    · simp
    · have := HN.out; simp only [maxLen, List.length_nil]; omega
    · have := HN.out; simp only [List.length_nil]; omega
    intro v1 w1 _ h2 h3 _ _
    have H2 := hide (h2 (.inr (by simpa using HO.out)))
    have H3 := hide h3
    clear h2 h3
    go_wp2
    go_ret
    exact ⟨_, rfl, by simpa using H2.out, ((Below.refl _ _).alloc (Nat.le_refl _) _).trans H3.out⟩

set_option maxRecDepth 100000 in
theorem c_sclone (base : Nat) (w : World) (g : Nat) (v : Value) (l : List Out) (h : StoreAt base w g v l) (hn : l.length ≤ 1099511627776) :
    Calls Try.prog 14 #[.pointer (some ⟨g, 0, none⟩)] w fun e w' => ∃ g' v', e = .returned (.pointer (some ⟨g', 0, none⟩)) ∧ StoreAt w.heap.size w' g' v' l ∧ Below w.heap.size w w' := by
  obtain ⟨A, c, rfl, hr⟩ := h.2.2.row
  have hc := h.cell.1
  have HR := hide hr
  have HN := hide hn
  clear h hr hn
  go_enter Try.func14, Try.ntmps14
  go_wp2_with fail
  refine (c_oclone A l.length c l _ _ HR.out HN.out).mono ?_
  rintro e w1 ⟨v1, rfl, ho, hb⟩
  obtain ⟨A1, c1, hv⟩ := ho.form
  have HO := hide ho
  have HB := hide hb
  clear ho hb
  rw [hv]
  go_wp2
  go_ret
  refine ⟨_, _, rfl, ⟨HB.out.size, heap_alloc_new _ _, ?_⟩, HB.out.alloc HB.out.size _⟩
  have := HO.out.keep (w' := w1.alloc (.cells #[.slice A1 l.length c1] 105)) (fun k hk _ => Below.heap_alloc w1 _ k hk)
  rw [hv] at this
  exact this

theorem c_sget_out (base : Nat) (w : World) (g : Nat) (v : Value) (l : List Out) (n : Int) (h : StoreAt base w g v l) (hn : l.length ≤ 1099511627776) (hx : n < 0 ∨ (l.length : Int) ≤ n) :
    Calls Try.prog 18 #[.pointer (some ⟨g, 0, none⟩), .int .i64 n] w fun e w' =>
      e = .returned (.tuple #[.agg #[.string ByteArray.empty, .bool false, .bool false], .bool false]) ∧ Below w.heap.size w w' := by
  obtain ⟨A, c, rfl⟩ := h.2.2.form
  have hc := h.cell.1
  have hlt := h.lt
  clear h hn
  by_cases h1 : n < 0
  · clear hx
    go_enter Try.func18, Try.ntmps18
    go_wp2
    exact bodyPost_ret (v := .tuple #[.agg #[.string ByteArray.empty, .bool false, .bool false], .bool false]) (by simp [results, Try.results18, go_sem]; rfl) rfl ⟨rfl, by repeat (first | exact Below.refl _ _ | refine Below.alloc ?_ (by simp) _ | refine Below.setCell ?_ (by simp) _)⟩
  · have h2 : (l.length : Int) ≤ n := by omega
    clear hx
    go_enter Try.func18, Try.ntmps18
    go_wp2
    exact bodyPost_ret (v := .tuple #[.agg #[.string ByteArray.empty, .bool false, .bool false], .bool false]) (by simp [results, Try.results18, go_sem]; rfl) rfl ⟨rfl, by repeat (first | exact Below.refl _ _ | refine Below.alloc ?_ (by simp) _ | refine Below.setCell ?_ (by simp) _)⟩
theorem c_sget_in (base : Nat) (w : World) (g : Nat) (v : Value) (l : List Out) (n : Int) (k : Nat) (o : Out) (h : StoreAt base w g v l) (hi : n = k) (ho : l[k]? = some o) :
    Calls Try.prog 18 #[.pointer (some ⟨g, 0, none⟩), .int .i64 n] w fun e w' =>
      e = .returned (.tuple #[.agg #[.string o.bytes, .bool o.whole, .bool o.pub], .bool true]) ∧ Below w.heap.size w w' := by
  subst hi
  obtain ⟨A, c, rfl, hr⟩ := h.2.2.row
  have hc := h.cell.1
  have hk : k < l.length := (List.getElem?_eq_some_iff.1 ho).1
  obtain ⟨b, q, cs, hix, -, hb, hK, hra⟩ := hr.index (P := Try.prog) Try.underlying103 (E := 30) (by kernel_rfl) ho
  have hKe := hK.1
  subst hKe
  have hc0 := hra 0 _ rfl
  have hc1 := hra 1 _ rfl
  have hc2 := hra 2 _ rfl
  simp only [Nat.add_zero] at hc0
  have hlt := h.lt
  clear ho hK hra h hr
  go_enter Try.func18, Try.ntmps18
  go_wp2
  exact bodyPost_ret (v := .tuple #[.agg #[.string o.bytes, .bool o.whole, .bool o.pub], .bool true]) (by simp [results, Try.results18, go_sem]) rfl ⟨rfl, by repeat (first | exact Below.refl _ _ | refine Below.alloc ?_ (by simp) _ | refine Below.setCell ?_ (by simp) _)⟩

/-- The numbers of what is public, from a place on. -/
def pubs (i : Nat) : List Out → List Int
  | [] => []
  | o :: r => if o.pub then (i : Int) :: pubs (i + 1) r else pubs (i + 1) r
theorem pubs_app : ∀ (l r : List Out) (i : Nat), pubs i (l ++ r) = pubs i l ++ pubs (i + l.length) r
  | [], r, i => by simp [pubs]
  | o :: l, r, i => by
    simp only [List.cons_append, pubs, pubs_app l r (i + 1), List.length_cons]
    rw [show i + 1 + l.length = i + (l.length + 1) from by omega]
    split <;> simp
theorem pubs_len : ∀ (l : List Out) (i : Nat), (pubs i l).length ≤ l.length
  | [], _ => by simp [pubs]
  | o :: l, i => by
    have := pubs_len l (i + 1)
    simp only [pubs]
    split <;> simp <;> omega
theorem pubs_take {l : List Out} {k : Nat} {o : Out} (h : l[k]? = some o) : pubs 0 (l.take (k + 1)) = pubs 0 (l.take k) ++ (if o.pub then [(k : Int)] else []) := by
  have hk := (List.getElem?_eq_some_iff.1 h).1
  have hx := (List.getElem?_eq_some_iff.1 h).2
  rw [List.take_succ_eq_append_getElem hk, pubs_app, List.length_take, Nat.min_eq_left (by omega), hx, Nat.zero_add]
  simp only [pubs]
theorem int_info : (Try.prog.info? 3).map (fun i => (i.zero, i.size, i.bytes)) = some (some (.int .i64 0), 1, 8) := by kernel_rfl
theorem src_int {ok ok' : Nat → Prop} {w : World} {A : Option Addr} {m : Nat} {xs : List Int} (h : kInt.Src ok w A m xs) : kInt.Src ok' w A m xs := let ⟨h1, css, he, hc⟩ := h; ⟨h1, css, ⟨he.1, fun i x cs hx hcs => he.2 i x cs hx hcs⟩, hc⟩

set_option maxRecDepth 100000 in
set_option maxHeartbeats 400000 in
theorem c_spublic (base : Nat) (w : World) (g : Nat) (v : Value) (l : List Out) (h : StoreAt base w g v l) (hn : l.length ≤ 1099511627776) :
    Calls Try.prog 17 #[.pointer (some ⟨g, 0, none⟩)] w fun e w' => ∃ v', e = .returned v' ∧ kInt.Own (fun _ => True) w.heap.size w' 3 v' (pubs 0 l) ∧ Below w.heap.size w w' := by
  obtain ⟨A, c, rfl, hr⟩ := h.2.2.row
  have hc := h.cell.1
  have HR := hide hr
  have HN := hide hn
  clear h hr hn
  go_enter Try.func17, Try.ntmps17
  go_wp2
  go_loopw [3, 11] (fun p i wr => ∃ k : Nat, k ≤ l.length ∧ i = .int .i64 (k : Int) ∧ Hid (kInt.Own (fun _ => True) w.heap.size wr 3 p (pubs 0 (l.take k))) ∧ Below w.heap.size w wr) (fun _ i _ => l.length - (intOf i).toNat)
  case atStart => exact ⟨0, Nat.zero_le _, rfl, hide (.nil _ _ _ _ _), Below.refl _ _⟩
  case round =>
    obtain ⟨k, hk, rfl, HO, hb⟩ := hrel
    have hbs := hb.size
    by_cases hlt : k < l.length
    · obtain ⟨o, ho⟩ : ∃ o, l[k]? = some o := ⟨_, List.getElem?_eq_getElem hlt⟩
      obtain ⟨b, q, cs, hix, -, hbl, hK, hra⟩ := (HR.out.below hb).index (P := Try.prog) Try.underlying103 (E := 30) (by kernel_rfl) ho
      have hKe := hK.1
      subst hKe
      have hc0 := hra 0 _ rfl
      have hc1 := hra 1 _ rfl
      have hc2 := hra 2 _ rfl
      simp only [Nat.add_zero] at hc0
      have HP := hide (pubs_take ho)
      have HPL := hide (pubs_len (l.take k) 0)
      have hkb : k ≤ 1099511627776 := by have := HN.out; omega
      clear ho hK hra
      cases hp : o.pub with
      | true =>
        rw [hp] at hc2
        have HP2 := hide hp
        clear hp
        go_wp2_with (at_builtin; go_must (refine wpList_app (d := kInt) (ys := [(k : Int)]) rfl _ _ _ rfl Try.underlying26 int_info rfl (by decide) 1 rfl rfl (.inl ((HO.out.below ((Below.refl _ _).alloc (Nat.le_refl _) _)).below ((Below.refl _ _).alloc (Nat.le_refl _) _))) (Kd.Src.new (d := kInt) ?_ _ rfl _ ?_) ?_ ?_ ?_ ?_))
        · exact ⟨rfl, by have := HN.out; omega⟩
        · simp
        · simp; omega
        · have := HN.out; have := HPL.out; simp only [List.length_take] at *; simp only [maxLen]; omega
        · have := HN.out; have := HPL.out; simp only [List.length_take] at *; omega
        · intro v1 w1 _ h2 h3 _ _
          have H2 := hide h2
          have H3 := hide h3
          clear h2 h3
          go_wp2
          go_roundw
          case rel =>
            refine ⟨k + 1, by omega, by simp, hide ?_, Below.trans ((hb.alloc hbs _).alloc (by simp; omega) _) H3.out⟩
            rw [HP.out, HP2.out]
            exact H2.out
          case measure => simp [intOf]; omega
      | false =>
        rw [hp] at hc2
        have HP2 := hide hp
        clear hp
        go_wp2
        go_roundw
        case rel =>
          refine ⟨k + 1, by omega, by simp, hide ?_, hb.alloc hbs _⟩
          rw [HP.out, HP2.out]
          simpa using HO.out.below ((Below.refl _ _).alloc (Nat.le_refl _) _)
        case measure => simp [intOf]; omega
    · obtain rfl : k = l.length := by omega
      go_wp2
      go_ret
      refine ⟨_, rfl, ?_, hb⟩
      have := HO.out
      rwa [List.take_length] at this

theorem out_K (ok : Nat → Prop) (w : World) (b : ByteArray) (x y : Bool) (hb : b.size ≤ maxLen) : kOut.K ok w ⟨b, x, y⟩ [.string b, .bool x, .bool y] := ⟨rfl, hb⟩

theorem own_out {ok ok' : Nat → Prop} {base : Nat} {w : World} {E : TypeId} {v : Value} {xs : List Out} (h : kOut.Own ok base w E v xs) : kOut.Own ok' base w E v xs := let ⟨css, he, r⟩ := h; ⟨css, ⟨he.1, fun i x cs hx hc => he.2 i x cs hx hc⟩, r⟩
theorem put_done {base : Nat} {w w1 : World} {g : Nat} {v v' : Value} {l l' : List Out} {o1 o2 : Obj} (h : StoreAt base w g v l) (hn : v.ownBlock ≠ some g) (hg1 : w1.heap[g]? = some (.cells #[v] 105))
    (h2 : kOut.Own (fun _ => True) base w1 30 v' l') (h3 : Below base ((w.alloc o1).alloc o2).drew w1) (h4 : ∀ k, k < ((w.alloc o1).alloc o2).drew.heap.size → some k ≠ v.ownBlock → w1.heap[k]? = ((w.alloc o1).alloc o2).drew.heap[k]?)
    (h5 : v'.ownBlock = v.ownBlock ∨ ∃ k, v'.ownBlock = some k ∧ ((w.alloc o1).alloc o2).drew.heap.size ≤ k) (hb : base ≤ w.heap.size) :
    StoreAt base (w1.setCell ⟨g, 0, none⟩ v') g v' l' ∧ Below base w (w1.setCell ⟨g, 0, none⟩ v') ∧
      (∀ k, k < w.heap.size → k ≠ g → some k ≠ v.ownBlock → (w1.setCell ⟨g, 0, none⟩ v').heap[k]? = w.heap[k]?) ∧ (v'.ownBlock = v.ownBlock ∨ ∃ k, v'.ownBlock = some k ∧ w.heap.size ≤ k) := by
  have hlt := h.lt
  have hbw : Below w.heap.size w ((w.alloc o1).alloc o2).drew := (((Below.refl _ w).alloc (Nat.le_refl _) o1).alloc (by simp) o2).drew
  have hoth : ∀ k, k ≠ g → (w1.setCell ⟨g, 0, none⟩ v').heap[k]? = w1.heap[k]? := fun k hk => Below.heap_setCell w1 ⟨g, 0, none⟩ v' k hk
  have hv' : v'.ownBlock ≠ some g := by
    rcases h5 with e | ⟨k, e, hk⟩
    · rw [e]; exact hn
    · rw [e]; intro e'; injection e' with e'; have := hbw.size; omega
  refine ⟨⟨h.1, ?_, own_out ((own_out (ok' := fun _ => False) h2).keep fun k _ hk => hoth k ?_)⟩, ?_, fun k hk h1 h2 => ?_, ?_⟩
  · exact one_setCell hg1
  · rcases hk with hk | hk
    · exact hk.elim
    · intro e; subst e; exact hv' hk.symm
  · exact ((hbw.mono hb).trans h3).setCell h.1 _
  · rw [hoth k h1, h4 k (Nat.lt_of_lt_of_le hk hbw.size) h2, hbw.block k hk]
  · rcases h5 with e | ⟨k, e, hk⟩
    · exact .inl e
    · exact .inr ⟨k, e, Nat.le_trans hbw.size hk⟩
theorem put_g {base : Nat} {w w1 : World} {g : Nat} {v : Value} {l : List Out} {o1 o2 : Obj} (h : StoreAt base w g v l) (hn : v.ownBlock ≠ some g) (h4 : ∀ k, k < ((w.alloc o1).alloc o2).drew.heap.size → some k ≠ v.ownBlock → w1.heap[k]? = ((w.alloc o1).alloc o2).drew.heap[k]?) : w1.heap[g]? = some (.cells #[v] 105) := by
  have hlt := h.lt
  have hb : Below w.heap.size w ((w.alloc o1).alloc o2).drew := (((Below.refl _ w).alloc (Nat.le_refl _) o1).alloc (by simp) o2).drew
  rw [h4 g (Nat.lt_of_lt_of_le hlt hb.size) (fun e => hn e.symm), hb.block g hlt]
  exact h.2.1
set_option maxRecDepth 100000 in
set_option maxHeartbeats 400000 in
theorem c_sput (base : Nat) (w : World) (g : Nat) (v : Value) (l : List Out) (b : ByteArray) (x y : Bool) (h : StoreAt base w g v l) (hn : l.length ≤ 1099511627776) (hb : b.size ≤ maxLen) (hbase : base ≤ w.heap.size) :
    Calls Try.prog 15 #[.pointer (some ⟨g, 0, none⟩), .agg #[.string b, .bool x, .bool y]] w fun e w' => ∃ v', e = .returned (.int .i64 (l.length : Int)) ∧ StoreAt base w' g v' (l ++ [⟨b, x, y⟩]) ∧ Below base w w' ∧
      (∀ k, k < w.heap.size → k ≠ g → some k ≠ v.ownBlock → w'.heap[k]? = w.heap[k]?) ∧ (v'.ownBlock = v.ownBlock ∨ ∃ k, v'.ownBlock = some k ∧ w.heap.size ≤ k) := by
  have hc := h.cell.1
  have hfz := h.cell.2
  have hlt := h.lt
  have hne := h.ne
  have hform := h.2.2.form
  have ho : kOut.Own (fun _ => True) base ((w.alloc (.cells #[.string b, .bool x, .bool y] 30)).alloc (.cells #[.string b, .bool x, .bool y] 30)).drew 30 v l :=
    (h.2.2.below ((Below.refl _ w).alloc (Nat.le_refl _) (.cells #[.string b, .bool x, .bool y] 30))).below (((Below.refl _ (w.alloc (.cells #[.string b, .bool x, .bool y] 30))).alloc (Nat.le_refl _) (.cells #[.string b, .bool x, .bool y] 30)).drew)
  have hs : kOut.Src (fun k => True ∧ some k ≠ v.ownBlock) ((w.alloc (.cells #[.string b, .bool x, .bool y] 30)).alloc (.cells #[.string b, .bool x, .bool y] 30)).drew (some ⟨w.heap.size + 1, 0, none⟩) 1 [⟨b, x, y⟩] :=
    src_out (ok := fun _ => True) (Kd.Src.new (d := kOut) (ok := fun _ => True) (w := w.alloc (.cells #[.string b, .bool x, .bool y] 30)) (out_K _ _ b x y hb) _ rfl _ (by simp))
  obtain ⟨A, c, hv⟩ := hform
  subst hv
  have HO := hide ho
  have HS := hide hs
  have HH := hide h
  have HN := hide hn
  have hl0 : l.length ≤ 1099511627776 := hn
  have HB := hide hbase
  have HNE := hide hne
  clear h ho hs hn hbase hne hb
  go_enter Try.func15, Try.ntmps15
  go_wp2
  go_region_law (refine step_app (d := kOut) (v := .slice A l.length c) rfl _ _ _ rfl Try.underlying103 out_info rfl (by decide) 1 rfl rfl (.inl HO.out) HS.out (by have := HB.out; simp; omega) (by have := HN.out; simp only [maxLen]; omega) (by have := HN.out; omega) ?_; intro v1 w1 _ h2 h3 h4 h5; obtain ⟨A1, cc1, rfl⟩ := (h2 (.inr HO.out)).form; have H2 := hide (h2 (.inr HO.out)); have H3 := hide h3; have H4 := hide h4; have H5 := hide h5; have hg1 : w1.heap[g]? = some (.cells #[.slice A l.length c] 105) := put_g HH.out HNE.out H4.out; have hc1 : w1.cell? ⟨g, 0, none⟩ = some (.slice A l.length c) := ((cell_of_row w1 _ _ _ _ _ hg1).trans rfl); have hf1 : w1.frozen? ⟨g, 0, none⟩ = false := frozen_of_row w1 _ _ _ _ hg1; have hl1 : g < w1.heap.size := (Array.getElem?_eq_some_iff.1 hg1).1; clear h2 h3 h4 h5)
  all_goals go_wp2
  all_goals go_ret
  all_goals exact ⟨_, rfl, put_done HH.out HNE.out hg1 (by simpa using H2.out) H3.out H4.out (by simpa using H5.out) HB.out⟩
end Go.Proofs.Ytlfhbnajopekpaa
