/- Texts of one proof, one behind the other: Pkt4, Pkt5, Pkt6, Pkt8, PktL, Enc, Bun2, BunL, Own, Bun3, Sto, SrA, Dig5, Hm1, Hm2, Hm3. No condition. -/
import Derived.Test.YtdkeflhgengblaaDoorRgb
import Derived.Test.YtdkeflhgengblaaDoorRga
import Derived.Great.BuildSlice
import Derived.Test.YtdkeflhgengblaaDoorProg
import Derived.Deep.RegionLaw
namespace Go.Proofs.YtdkeflhgengblaaDoor
open Go.RowKit

theorem ptake_len {k : UInt8} {l r : List Fld} {x : ByteArray} (h : ptake k l = some (x, r)) : l.length = r.length + 1 := by
  cases l with
  | nil => cases h
  | cons f q =>
    simp only [ptake] at h
    split at h
    · cases h; rfl
    · cases h
theorem pnum_len {k : UInt8} {l r : List Fld} {x : Nat} (h : pnum k l = some (x, r)) : l.length = r.length + 1 := by
  unfold pnum at h
  cases hp : ptake k l with
  | none => rw [hp] at h; cases h
  | some y =>
    obtain ⟨y, q⟩ := y
    rw [hp] at h
    simp only [Option.bind_some] at h
    split at h
    · cases h
    · cases h; exact ptake_len hp
/-- What a third party's caveat is read to. -/
def pthird (l : List Fld) : Option (Cav × List Fld) :=
  (pnum 4 l).bind fun a => (ptake 5 a.2).bind fun b => (ptake 6 b.2).map fun c => (⟨true, ByteArray.empty, a.1, b.1, c.1⟩, c.2)
theorem pthird_len {l r : List Fld} {x : Cav} (h : pthird l = some (x, r)) : r.length < l.length := by
  unfold pthird at h
  obtain ⟨a, ha, h⟩ := Option.bind_eq_some_iff.1 h
  obtain ⟨b, hb, h⟩ := Option.bind_eq_some_iff.1 h
  obtain ⟨c, hc, h⟩ := Option.map_eq_some_iff.1 h
  have h1 := pnum_len (r := a.2) (x := a.1) ha
  have h2 := ptake_len (r := b.2) (x := b.1) hb
  have h3 := ptake_len (r := c.2) (x := c.1) hc
  cases h
  omega
def pcavs (l : List Fld) : Option (List Cav × List Fld) :=
  if pis 3 (some l) = true then
    match _h : ptake 3 l with
    | none => none
    | some x => (pcavs x.2).map fun y => (⟨false, x.1, 0, ByteArray.empty, ByteArray.empty⟩ :: y.1, y.2)
  else if pis 4 (some l) = true then
    match _h : pthird l with
    | none => none
    | some x => (pcavs x.2).map fun y => (x.1 :: y.1, y.2)
  else some ([], l)
termination_by l.length
decreasing_by
  · have := ptake_len (r := x.2) (x := x.1) _h
    omega
  · exact pthird_len (r := x.2) (x := x.1) _h
theorem pcavs_text {l r : List Fld} {x : ByteArray} (h : pis 3 (some l) = true) (ht : ptake 3 l = some (x, r)) : pcavs l = (pcavs r).map fun y => (⟨false, x, 0, ByteArray.empty, ByteArray.empty⟩ :: y.1, y.2) := by
  rw [pcavs, if_pos h]
  split
  · rename_i h'; rw [ht] at h'; cases h'
  · rename_i y h'
    rw [ht] at h'
    cases h'
    rfl
theorem pcavs_third {l r : List Fld} {x : Cav} (h3 : pis 3 (some l) = false) (h : pis 4 (some l) = true) (ht : pthird l = some (x, r)) : pcavs l = (pcavs r).map fun y => (x :: y.1, y.2) := by
  rw [pcavs, if_neg (by rw [h3]; decide), if_pos h]
  split
  · rename_i h'; rw [ht] at h'; cases h'
  · rename_i y h'
    rw [ht] at h'
    cases h'
    rfl
theorem pcavs_bad {l : List Fld} (h3 : pis 3 (some l) = false) (h : pis 4 (some l) = true) (ht : pthird l = none) : pcavs l = none := by
  rw [pcavs, if_neg (by rw [h3]; decide), if_pos h]
  split
  · rfl
  · rename_i y h'
    rw [ht] at h'
    cases h'
theorem pcavs_end {l : List Fld} (h3 : pis 3 (some l) = false) (h : pis 4 (some l) = false) : pcavs l = some ([], l) := by
  rw [pcavs, if_neg (by rw [h3]; decide), if_neg (by rw [h]; decide)]
theorem pis_take {k : UInt8} {l : List Fld} (h : pis k (some l) = true) : ∃ x r, ptake k l = some (x, r) := by
  cases l with
  | nil => cases h
  | cons f r =>
    have : f.kind = k := by simpa [pis] using h
    exact ⟨f.value, r, by simp [ptake, this]⟩

/-- How many rounds may follow. -/
def rdM (w : World) (g : Nat) : Nat := match w.heap[g]? with | some (.cells #[.slice _ n _, .bool false] _ _) => n + 1 | _ => 0
theorem RdAt.m_some {w : World} {g : Nat} {l : List Fld} (h : RdAt w g (some l)) : rdM w g = l.length + 1 := by
  obtain ⟨A, n, c, l', h1, h2, h3⟩ := h
  rw [rdM, h1, ← h3 l rfl, h2.1]
  rfl
theorem RdAt.m_none {w : World} {g : Nat} (h : RdAt w g none) : rdM w g = 0 := by
  obtain ⟨A, n, c, l', h1, h2, h3⟩ := h
  rw [rdM, h1]
  rfl
theorem c_ris2 (w : World) (g : Nat) (k : UInt8) (l : List Fld) (i : Int) (hi : i = (k.toNat : Int)) (h : RdAt w g (some l)) :
    Calls Tryd.prog 151 #[.pointer (some ⟨g, 0, none⟩), .int .u8 i] w fun e w' => e = .returned (.bool (pis k (some l))) ∧ w = w' := by
  obtain ⟨A, n, c, l', hg, hr, hl⟩ := h
  have := hl l rfl
  subst this
  exact c_ris w g k A n c l' _ _ i hi hg hr
def CavsRead (w : World) (g : Nat) (o : Option (List Cav × List Fld)) (e : Ending) (w' : World) : Prop :=
  ∃ v, e = .returned v ∧ Only g w w' ∧ kCav.Own (fun _ => False) w.heap.size w' 83 v ((o.map (·.1)).getD []) ∧ RdAt w' g (o.map (·.2))
theorem own_only {w w' : World} {g base : Nat} {E : TypeId} {v : Value} {xs : List Cav} (h : kCav.Own (fun _ => False) base w E v xs) (hg : g < base) (ho : Only g w w') : kCav.Own (fun _ => False) base w' E v xs :=
  h.keep fun k hk hk' => ho.2.2.2.2 k hk (by
    rcases hk' with hk' | hk'
    · exact hk'.elim
    · have := (h.base_le k hk'.symm).1; omega)

theorem text_ok {v : ByteArray} (h : v.size ≤ maxLen) : (⟨false, v, 0, ByteArray.empty, ByteArray.empty⟩ : Cav).ok := ⟨h, by show (0 : Nat) < _; decide, by show (0 : Nat) ≤ _; omega, by show (0 : Nat) ≤ _; omega⟩
theorem third_ok {p : Nat} {i v : ByteArray} (hp : p < 18446744073709551616) (hi : i.size ≤ maxLen) (hv : v.size ≤ maxLen) : (⟨true, ByteArray.empty, p, i, v⟩ : Cav).ok := ⟨by show (0 : Nat) ≤ _; omega, hp, hi, hv⟩
theorem Only.setNew {g : Nat} {w w' : World} (h : Only g w w') {a : Addr} (ha : w.heap.size ≤ a.block) (v : Value) : Only g w (w'.setCell a v) :=
  ⟨h.1, h.2.1, h.2.2.1, by simpa using h.size, fun k hk hg => (Below.heap_setCell w' a v k (by omega)).trans (h.2.2.2.2 k hk hg)⟩
theorem Only.more {g : Nat} {w w1 w2 : World} (h : Only g w w1) (k : Below w.heap.size w1 w2) : Only g w w2 :=
  ⟨k.os.trans h.1, k.tape.trans h.2.1, k.output.trans h.2.2.1, Nat.le_trans h.size k.size, fun i hi hg => (k.block i hi).trans (h.2.2.2.2 i hi hg)⟩
theorem third_map (l : List Fld) : (pthird l).map (·.2) = ((((((some l).bind (pnum 4)).map (·.2)).bind (ptake 5)).map (·.2)).bind (ptake 6)).map (·.2) := by
  unfold pthird
  simp only [Option.bind_some]
  cases pnum 4 l with
  | none => rfl
  | some a =>
    simp only [Option.bind_some, Option.map_some]
    cases ptake 5 a.2 with
    | none => rfl
    | some b =>
      simp only [Option.bind_some, Option.map_some]
      cases ptake 6 b.2 <;> rfl
theorem third_some {l r : List Fld} {x : Cav} (h : pthird l = some (x, r)) : ∃ p i v l1 l2, (some l).bind (pnum 4) = some (p, l1) ∧ (((some l).bind (pnum 4)).map (·.2)).bind (ptake 5) = some (i, l2) ∧
    (((((some l).bind (pnum 4)).map (·.2)).bind (ptake 5)).map (·.2)).bind (ptake 6) = some (v, r) ∧ x = ⟨true, ByteArray.empty, p, i, v⟩ := by
  unfold pthird at h
  obtain ⟨a, ha, h⟩ := Option.bind_eq_some_iff.1 h
  obtain ⟨b, hb, h⟩ := Option.bind_eq_some_iff.1 h
  obtain ⟨c, hc, h⟩ := Option.map_eq_some_iff.1 h
  cases h
  refine ⟨a.1, b.1, c.1, a.2, b.2, by simp [ha], by simp [ha, hb], by simp [ha, hb, hc], rfl⟩
set_option maxRecDepth 100000 in
set_option maxHeartbeats 2000000 in
theorem c_rcavs (w : World) (g : Nat) (s : Option (List Fld)) (h : RdAt w g s) (hn : ∀ l, s = some l → l.length ≤ 1099511627776) :
    Calls Tryd.prog 148 #[.pointer (some ⟨g, 0, none⟩)] w (CavsRead w g (s.bind pcavs)) := by
  have hlt := h.lt
  have H := hide h
  have HN := hide hn
  clear h hn
  go_enter Tryd.func148, Tryd.ntmps148
  go_wp2
  go_loopw [3] (fun p wr => ∃ (s' : Option (List Fld)) (acc : List Cav), Hid (RdAt wr g s') ∧ Hid (kCav.Own (fun _ => False) w.heap.size wr 83 p acc) ∧ Hid (∀ l, s' = some l → acc.length + l.length ≤ 1099511627776) ∧ Hid (s.bind pcavs = s'.bind fun l => (pcavs l).map fun y => (acc ++ y.1, y.2)) ∧ Hid (Only g w wr)) (fun _ wr => rdM wr g)
  case atStart => exact ⟨s, [], H, hide (.nil _ _ _ _ _), hide (by simpa using HN.out), hide (by simp), hide (Only.refl _ _)⟩
  case round =>
    obtain ⟨s', acc, HR, HO, HC, HE, HW⟩ := hrel
    cases s' with
    | none =>
      have hc1 : wr.cell? ⟨g, 1, none⟩ = some (.bool true) := by
        obtain ⟨A, n, c, l, hg, _⟩ := HR.out
        exact (cell_of_row wr _ _ _ _ _ hg).trans rfl
      go_wp2_with fail
      go_ret
      exact ⟨_, rfl, HW.out, by rw [HE.out]; exact .nil _ _ _ _ _, by rw [HE.out]; exact HR.out⟩
    | some l =>
      have hc1 : wr.cell? ⟨g, 1, none⟩ = some (.bool false) := by
        obtain ⟨A, n, c, l, hg, _⟩ := HR.out
        exact (cell_of_row wr _ _ _ _ _ hg).trans rfl
      cases h3 : pis 3 (some l) with
      | true =>
        obtain ⟨x, r, ht⟩ := pis_take h3
        have HT := hide ht
        have H3 := hide h3
        clear ht h3
        go_wp2_with fail
        refine (c_ris2 wr g 3 l _ (by rfl) HR.out).mono ?_
        rintro e w1 ⟨rfl, rfl⟩
        rw [H3.out]
        go_wp2_with fail
        refine (c_rtake wr g 3 (some l) _ rfl HR.out).mono ?_
        rintro e w1 ⟨v, rfl, hv, hx, h1, h2⟩
        simp only [Option.bind_some, HT.out, Option.map_some] at hx h2
        obtain rfl := hx x r rfl
        have HV := hide hv
        have HR1 := hide h2
        have HO1 := hide (own_only HO.out hlt h1)
        have HW1 := hide (HW.out.trans h1)
        have hs1 := h1.size
        have hsw := HW.out.size
        have HLEN := hide (ptake_len HT.out)
        clear hv hx h1 h2
        go_wp2_with (at_builtin; go_must (refine wpList_app (d := kCav) (ys := [⟨false, v, 0, ByteArray.empty, ByteArray.empty⟩]) rfl _ _ _ rfl Tryd.underlying42 cav_info rfl (by decide) 1 rfl rfl (.inl (HO1.out.below (below1 _ _))) (src_cav (ok := fun _ => True) (Kd.Src.new (d := kCav) ⟨rfl, text_ok HV.out⟩ _ rfl _ ?_)) ?_ ?_ ?_ ?_))
        · simp
        · simp; omega
        · have := HC.out l rfl; simp only [maxLen]; omega
        · have := HC.out l rfl; omega
        · intro v1 w2 _ h2 h3 h4 h5
          have HO2 := hide h2
          have HB2 : Hid (Below w.heap.size w1 w2) := hide (((below1 w1 (.cells #[.bool false, .string v, .int .u64 0, .string ⟨#[]⟩, .string ⟨#[]⟩] 83)).mono (by omega)).trans h3)
          have HW2 := hide (HW1.out.more HB2.out)
          have HR2 := hide (HR1.out.keep fun k hk => HB2.out.block k (by omega))
          have HM := hide HR.out.m_some
          have HM2 := hide HR2.out.m_some
          have HE2 : Hid (s.bind pcavs = (some r).bind fun l => (pcavs l).map fun y => ((acc ++ [⟨false, v, 0, ByteArray.empty, ByteArray.empty⟩]) ++ y.1, y.2)) := hide (by
            rw [HE.out, Option.bind_some, Option.bind_some, pcavs_text H3.out HT.out, Option.map_map]
            congr 1
            funext y
            simp)
          clear h2 h3 h4 h5
          go_wp2_with fail
          go_roundw
          case rel => exact ⟨some r, acc ++ [⟨false, v, 0, ByteArray.empty, ByteArray.empty⟩], HR2, HO2, hide (fun l' hl' => by cases hl'; have := HC.out l rfl; have := HLEN.out; simp; omega), HE2, HW2⟩
          case measure => rw [HM.out, HM2.out, HLEN.out]; omega
      | false =>
        cases h4 : pis 4 (some l) with
        | false =>
          have HE2 := hide (pcavs_end h3 h4)
          have H3 := hide h3
          have H4 := hide h4
          clear h3 h4
          go_wp2_with fail
          refine (c_ris2 wr g 3 l _ (by rfl) HR.out).mono ?_
          rintro e w1 ⟨rfl, rfl⟩
          rw [H3.out]
          go_wp2_with fail
          refine (c_ris2 wr g 4 l _ (by rfl) HR.out).mono ?_
          rintro e w1 ⟨rfl, rfl⟩
          rw [H4.out]
          go_wp2_with fail
          go_ret
          exact ⟨_, rfl, HW.out, by rw [HE.out, Option.bind_some, HE2.out]; simpa using HO.out, by rw [HE.out, Option.bind_some, HE2.out]; exact HR.out⟩
        | true =>
          have H3 := hide h3
          have H4 := hide h4
          have HT := hide (fun x r => pcavs_third (l := l) (x := x) (r := r) h3 h4)
          have HTB := hide (pcavs_bad h3 h4)
          have HTM := hide (third_map l)
          have HTS := hide (fun x r => third_some (l := l) (x := x) (r := r))
          clear h3 h4
          go_wp2_with fail
          refine (c_ris2 wr g 3 l _ (by rfl) HR.out).mono ?_
          rintro e w1 ⟨rfl, rfl⟩
          rw [H3.out]
          go_wp2_with fail
          refine (c_ris2 wr g 4 l _ (by rfl) HR.out).mono ?_
          rintro e w1 ⟨rfl, rfl⟩
          rw [H4.out]
          go_wp2_with fail
          refine (c_pknumber wr g 4 (some l) _ rfl HR.out).mono ?_
          rintro e w1 ⟨p, rfl, hp, hpx, h1, h2⟩
          have HP := hide hp
          have HPX := hide hpx
          have HR1 := hide h2
          have HO1 := hide (own_only HO.out hlt h1)
          have HW1 := hide (HW.out.trans h1)
          have hs1 := HW1.out.size
          clear hp hpx h1 h2
          go_wp2_with fail
          refine (c_rtake (w1.alloc (.cells #[.bool true, .string ⟨#[]⟩, .int .u64 (p : Int), .string ⟨#[]⟩, .string ⟨#[]⟩] 83)) g 5 _ _ rfl (HR1.out.below (below1 _ _))).mono ?_
          rintro e w2 ⟨i, rfl, hi, hix, h1, h2⟩
          have HI := hide hi
          have HIX := hide hix
          have hsz1 : w1.heap.size < w2.heap.size := by have := h1.size; simp only [World.size_alloc] at this; omega
          have hgw : g < w1.heap.size := by omega
          have hX2 : w2.heap[w1.heap.size]? = some (.cells #[.bool true, .string ⟨#[]⟩, .int .u64 (p : Int), .string ⟨#[]⟩, .string ⟨#[]⟩] 83) := (h1.2.2.2.2 _ (by simp) (by omega)).trans (heap_alloc_new _ _)
          have HX2 := hide hX2
          have hy0 : w2.cell? ⟨w1.heap.size, 0, none⟩ = some (.bool true) := (cell_of_row w2 _ _ _ _ _ hX2).trans rfl
          have hy1 : w2.cell? ⟨w1.heap.size, 1, none⟩ = some (.string ⟨#[]⟩) := (cell_of_row w2 _ _ _ _ _ hX2).trans rfl
          have hy2 : w2.cell? ⟨w1.heap.size, 2, none⟩ = some (.int .u64 (p : Int)) := (cell_of_row w2 _ _ _ _ _ hX2).trans rfl
          have hy3 : w2.cell? ⟨w1.heap.size, 3, none⟩ = some (.string ⟨#[]⟩) := (cell_of_row w2 _ _ _ _ _ hX2).trans rfl
          have hy4 : w2.cell? ⟨w1.heap.size, 4, none⟩ = some (.string ⟨#[]⟩) := (cell_of_row w2 _ _ _ _ _ hX2).trans rfl
          have hfz : w2.frozen? ⟨w1.heap.size, 3, none⟩ = false := frozen_of_row w2 _ _ _ _ hX2
          have HR2 := hide (h2.keep (w' := w2.setCell ⟨w1.heap.size, 3, none⟩ (.string i)) fun k hk => Below.heap_setCell _ _ _ _ (by show k ≠ w1.heap.size; omega))
          have HN2 : Hid (Only g w1 (w2.setCell ⟨w1.heap.size, 3, none⟩ (.string i))) := hide ((((Only.refl g w1).alloc _).trans h1).setNew (Nat.le_refl _) _)
          clear hi hix h1 h2 hX2
          go_wp2_with fail
          refine (c_rtake (w2.setCell ⟨w1.heap.size, 3, none⟩ (.string i)) g 6 _ _ rfl HR2.out).mono ?_
          rintro e w3 ⟨v, rfl, hv, hvx, h1, h2⟩
          have HV := hide hv
          have HVX := hide hvx
          have hsz2 : w2.heap.size ≤ w3.heap.size := by have := h1.size; simpa using this
          have hX3 : w3.heap[w1.heap.size]? = some (.cells #[.bool true, .string ⟨#[]⟩, .int .u64 (p : Int), .string i, .string ⟨#[]⟩] 83) := (h1.2.2.2.2 _ (by simp; omega) (by omega)).trans (heap_cellAt HX2.out _)
          have hz0 : w3.cell? ⟨w1.heap.size, 0, none⟩ = some (.bool true) := (cell_of_row w3 _ _ _ _ _ hX3).trans rfl
          have hz1 : w3.cell? ⟨w1.heap.size, 1, none⟩ = some (.string ⟨#[]⟩) := (cell_of_row w3 _ _ _ _ _ hX3).trans rfl
          have hz2 : w3.cell? ⟨w1.heap.size, 2, none⟩ = some (.int .u64 (p : Int)) := (cell_of_row w3 _ _ _ _ _ hX3).trans rfl
          have hz3 : w3.cell? ⟨w1.heap.size, 3, none⟩ = some (.string i) := (cell_of_row w3 _ _ _ _ _ hX3).trans rfl
          have hz4 : w3.cell? ⟨w1.heap.size, 4, none⟩ = some (.string ⟨#[]⟩) := (cell_of_row w3 _ _ _ _ _ hX3).trans rfl
          have hfz2 : w3.frozen? ⟨w1.heap.size, 4, none⟩ = false := frozen_of_row w3 _ _ _ _ hX3
          have HN3 : Hid (Only g w1 (w3.setCell ⟨w1.heap.size, 4, none⟩ (.string v))) := hide ((HN2.out.trans h1).setNew (Nat.le_refl _) _)
          have HR3 := hide (h2.keep (w' := w3.setCell ⟨w1.heap.size, 4, none⟩ (.string v)) fun k hk => Below.heap_setCell _ _ _ _ (by show k ≠ w1.heap.size; omega))
          have HLEN : Hid (1 ≤ l.length) := hide (by
            obtain ⟨x, r, ht⟩ := pis_take H4.out
            have := ptake_len ht
            omega)
          have HM := hide HR.out.m_some
          clear hv hvx h1 h2 hX3
          go_wp2_with (at_builtin; go_must (refine wpList_app (d := kCav) (ys := [⟨true, ByteArray.empty, p, i, v⟩]) rfl _ _ _ rfl Tryd.underlying42 cav_info rfl (by decide) 1 rfl rfl (.inl ((own_only HO1.out hlt HN3.out).below (below1 _ _))) (src_cav (ok := fun _ => True) (Kd.Src.new (d := kCav) ⟨rfl, third_ok HP.out HI.out HV.out⟩ _ rfl _ ?_)) ?_ ?_ ?_ ?_))
          · simp
          · simp; omega
          · have := HC.out l rfl; have := HLEN.out; simp only [maxLen]; omega
          · have := HC.out l rfl; have := HLEN.out; omega
          · intro v1 w4 _ h2 h3 h4 h5
            have HO4 := hide h2
            have HB4 : Hid (Below w.heap.size (w3.setCell ⟨w1.heap.size, 4, none⟩ (.string v)) w4) := hide (((below1 (w3.setCell ⟨w1.heap.size, 4, none⟩ (.string v)) (.cells #[.bool true, .string ⟨#[]⟩, .int .u64 (p : Int), .string i, .string v] 83)).mono (by simp; omega)).trans h3)
            have HW4 := hide ((HW1.out.trans HN3.out).more HB4.out)
            have HR4 := HR3.out.keep (w' := w4) fun k hk => HB4.out.block k (by omega)
            rw [← HTM.out] at HR4
            have HR4 := hide HR4
            clear h2 h3 h4 h5
            go_wp2_with fail
            go_roundw
            case rel =>
              refine ⟨_, acc ++ [⟨true, ByteArray.empty, p, i, v⟩], HR4, HO4, hide (fun l' hl' => ?_), hide ?_, HW4⟩
              · obtain ⟨⟨x, r⟩, hx, rfl⟩ := Option.map_eq_some_iff.1 hl'
                have := pthird_len hx
                have := HC.out l rfl
                simp
                omega
              · rw [HE.out, Option.bind_some]
                cases hpt : pthird l with
                | none => rw [HTB.out hpt]; rfl
                | some xr =>
                  obtain ⟨x, r⟩ := xr
                  obtain ⟨p', i', v', l1, l2, e1, e2, e3, ex⟩ := HTS.out x r hpt
                  have q1 := HPX.out _ _ e1
                  have q2 := HIX.out _ _ e2
                  have q3 := HVX.out _ _ e3
                  subst q1 q2 q3 ex
                  rw [HT.out _ _ hpt, Option.map_map]
                  show _ = Option.map _ (pcavs r)
                  congr 1
                  funext y
                  simp
            case measure =>
              have HR5 := HR4.out
              rw [HM.out]
              cases hpt : pthird l with
              | none => rw [hpt] at HR5; rw [HR5.m_none]; omega
              | some xr =>
                obtain ⟨x, r⟩ := xr
                rw [hpt] at HR5
                have := pthird_len hpt
                rw [RdAt.m_some HR5]
                show r.length + 1 < _
                omega
end Go.Proofs.YtdkeflhgengblaaDoor
namespace Go.Proofs.YtdkeflhgengblaaDoor
open Go.RowKit
attribute [local go_sem ↓] ld16 ld17 ld32 ld36
attribute [local go_sem] run_ldAgg run_storeAgg agg_alloc_at agg_alloc_past agg_drew agg_setCell row_alloc_at row_alloc_past row_drew setRow_alloc_at setRow_alloc_past setRow_drew tgC_size tgC_one tgC_part tgC_splice tokC_size tokC_0 tokC_1 tokC_2 tokC_3 tokC_g0 tokC_g1 tokC_g2 tokC_g3 tokC_part tokC_tag tokC_set0 tokC_set1 tokC_set2 tokC_set3 tokC_splice tokC_splice0 tgC_splice_any zero_tg zero_tok tokC_one

end Go.Proofs.YtdkeflhgengblaaDoor
namespace Go.Proofs.YtdkeflhgengblaaDoor
open Go.RowKit
attribute [local go_sem ↓] ld16 ld17 ld32 ld36
attribute [local go_sem] run_ldAgg run_storeAgg agg_alloc_at agg_alloc_past agg_drew agg_setCell row_alloc_at row_alloc_past row_drew setRow_alloc_at setRow_alloc_past setRow_drew agg_setRow_at agg_setRow_far cell_setRow_at cell_setRow_far row_setRow_far size_setRow tgC_size tgC_one tgC_part tgC_splice tokC_size tokC_0 tokC_1 tokC_2 tokC_3 tokC_g0 tokC_g1 tokC_g2 tokC_g3 tokC_part tokC_tag tokC_set0 tokC_set1 tokC_set2 tokC_set3 tokC_splice tokC_splice0 tgC_splice_any zero_tg zero_tok tokC_all tokC_ne tgC_ne

def b0 : ByteArray := ⟨#[0]⟩
def b1 : ByteArray := ⟨#[1]⟩
/-- The token that bytes are read to. -/
def pdec (b : List UInt8) : Option Tok :=
  (fall b).bind fun l => (pnum 1 l).bind fun k => (ptake 2 k.2).bind fun i => (pcavs i.2).bind fun c => (ptake 7 c.2).bind fun f => (ptake 8 f.2).bind fun m => (tagOf (byt m.1)).bind fun t =>
    if m.2 = [] ∧ (f.1 = b0 ∨ f.1 = b1) ∧ checkT ⟨k.1, i.1, c.1, decide (f.1 = b1), t⟩ = true then some ⟨k.1, i.1, c.1, decide (f.1 = b1), t⟩ else none
def Decoded (w : World) (o : Option Tok) (e : Ending) (w' : World) : Prop :=
  ∃ A n c, e = .returned (.tuple #[tokV (o.getD Tok.zero) A n c, .int .i64 (if o.isSome then 0 else 2)]) ∧ kCav.Own (fun _ => False) w.heap.size w' 83 (.slice A n c) (o.getD Tok.zero).cavs ∧ Below w.heap.size w w'

theorem fall_len : ∀ (k : Nat) (l : List UInt8) (r : List Fld), l.length ≤ k → fall l = some r → r.length ≤ l.length
  | 0, l, r, h, hf => by
    obtain rfl : l = [] := List.eq_nil_of_length_eq_zero (by omega)
    rw [fall_nil] at hf
    cases hf
    simp
  | k + 1, l, r, h, hf => by
    by_cases h0 : l = []
    · subst h0
      rw [fall_nil] at hf
      cases hf
      simp
    · cases hg : fget l with
      | none => rw [fall_none h0 hg] at hf; cases hf
      | some fk =>
        obtain ⟨f, n⟩ := fk
        rw [fall_some h0 hg] at hf
        obtain ⟨q, hq, rfl⟩ := Option.map_eq_some_iff.1 hf
        have hp := fget_pos hg
        have := fall_len k (l.drop n) q (by simp; omega) hq
        simp at this ⊢
        omega
theorem pbind_len {s : Option (List Fld)} {α : Type} {f : List Fld → Option (α × List Fld)} {n : Nat} (hs : ∀ l, s = some l → l.length ≤ n) (hf : ∀ l x r, f l = some (x, r) → r.length ≤ l.length) : ∀ l, (s.bind f).map (·.2) = some l → l.length ≤ n := by
  intro l h
  obtain ⟨⟨x, r⟩, h1, rfl⟩ := Option.map_eq_some_iff.1 h
  obtain ⟨q, h2, h3⟩ := Option.bind_eq_some_iff.1 h1
  exact Nat.le_trans (hf _ _ _ h3) (hs q h2)

section
variable {w w' : World} {base q : Nat} {E : TypeId} {v : Value} {xs : List Cav}
theorem own_set (h : kCav.Own (fun _ => False) base w E v xs) (hq : q < base) (o : Nat) (u : Value) : kCav.Own (fun _ => False) base (w.setCell ⟨q, o, none⟩ u) E v xs :=
  h.keep fun k _ hk => Below.heap_setCell _ _ _ _ (by
    rcases hk with hk | hk
    · exact hk.elim
    · have := (h.base_le k hk.symm).1; show k ≠ q; omega)
theorem own_rowC (h : kCav.Own (fun _ => False) base w E v xs) (hq : q < base) (C : Array Value) : kCav.Own (fun _ => False) base (w.setRow q C) E v xs :=
  h.keep fun k _ hk => heap_setRow_far _ _ _ (by
    rcases hk with hk | hk
    · exact hk.elim
    · have := (h.base_le k hk.symm).1; show ¬ k = q; omega)
theorem Only.b {g B : Nat} (h : Only g w w') (hB : B ≤ g) (hw : B ≤ w.heap.size) : Below B w w' := ⟨h.1, h.2.1, h.2.2.1, h.size, fun k hk => h.2.2.2.2 k (by omega) (by omega)⟩
end
theorem pdec_eq {xs : List UInt8} {s1 s2 s3 s4 s5 : Option (List Fld)} {k : Nat} {d f m : ByteArray} {cs : List Cav}
    (h1 : s1 = ((fall xs).bind (pnum 1)).map (·.2)) (hk : ∀ x r, (fall xs).bind (pnum 1) = some (x, r) → k = x)
    (h2 : s2 = (s1.bind (ptake 2)).map (·.2)) (hd : ∀ x r, s1.bind (ptake 2) = some (x, r) → d = x)
    (h3 : s3 = (s2.bind pcavs).map (·.2)) (hc : cs = ((s2.bind pcavs).map (·.1)).getD [])
    (h4 : s4 = (s3.bind (ptake 7)).map (·.2)) (hf : ∀ x r, s3.bind (ptake 7) = some (x, r) → f = x)
    (h5 : s5 = (s4.bind (ptake 8)).map (·.2)) (hm : ∀ x r, s4.bind (ptake 8) = some (x, r) → m = x) :
    pdec xs = s5.bind fun l => (tagOf (byt m)).bind fun t => if l = [] ∧ (f = b0 ∨ f = b1) ∧ checkT ⟨k, d, cs, decide (f = b1), t⟩ = true then some ⟨k, d, cs, decide (f = b1), t⟩ else none := by
  unfold pdec
  cases e0 : fall xs with
  | none => rw [e0] at h1; subst h1; subst h2; subst h3; subst h4; subst h5; rfl
  | some l0 =>
    rw [e0] at h1 hk
    simp only [Option.bind_some] at h1 hk ⊢
    cases e1 : pnum 1 l0 with
    | none => rw [e1] at h1; subst h1; subst h2; subst h3; subst h4; subst h5; rfl
    | some y1 =>
      rw [e1] at h1 hk
      subst h1
      obtain rfl := hk _ _ rfl
      simp only [Option.bind_some, Option.map_some] at h2 hd ⊢
      cases e2 : ptake 2 y1.2 with
      | none => rw [e2] at h2; subst h2; subst h3; subst h4; subst h5; rfl
      | some y2 =>
        rw [e2] at h2 hd
        subst h2
        obtain rfl := hd _ _ rfl
        simp only [Option.bind_some, Option.map_some] at h3 hc ⊢
        cases e3 : pcavs y2.2 with
        | none => rw [e3] at h3; subst h3; subst h4; subst h5; rfl
        | some y3 =>
          rw [e3] at h3 hc
          subst h3
          simp only [Option.map_some, Option.getD_some] at hc
          subst hc
          simp only [Option.bind_some, Option.map_some] at h4 hf ⊢
          cases e4 : ptake 7 y3.2 with
          | none => rw [e4] at h4; subst h4; subst h5; rfl
          | some y4 =>
            rw [e4] at h4 hf
            subst h4
            obtain rfl := hf _ _ rfl
            simp only [Option.bind_some, Option.map_some] at h5 hm ⊢
            cases e5 : ptake 8 y4.2 with
            | none => rw [e5] at h5; subst h5; rfl
            | some y5 =>
              rw [e5] at h5 hm
              subst h5
              obtain rfl := hm _ _ rfl
              rfl
theorem flag_eq (f : ByteArray) (x : UInt8) : (f.toList == [x]) = decide (f = ⟨#[x]⟩) := by
  have h : (⟨#[x]⟩ : ByteArray).toList = [x] := by rw [ByteArray.toList_eq]
  rw [Bool.eq_iff_iff, beq_iff_eq, decide_eq_true_eq]
  exact ⟨fun e => (bytes_inj _ _).1 (e.trans h.symm), fun e => by rw [e]; exact h⟩
theorem own_row_of {w : World} {base : Nat} {E : TypeId} {A : Option Addr} {n c : Nat} {xs : List Cav} (h : kCav.Own (fun _ => False) base w E (.slice A n c) xs) : kCav.Row (fun k => False ∨ some k = (Value.slice A n c).ownBlock) w A n c xs := by
  obtain ⟨A', c', e, r⟩ := h.row
  cases e
  exact r
theorem own_row_of' {w w' : World} {base : Nat} {E : TypeId} {v : Value} {xs : List Cav} (h : kCav.Own (fun _ => False) base w E v xs) (hb : Below w.heap.size w w') : kCav.Own (fun _ => False) base w' E v xs := h.below hb
theorem dec_fail {xs : List UInt8} {w W : World} (hpn : pdec xs = none) (hB : Below w.heap.size w W) :
    Decoded w (pdec xs) (.returned (.tuple #[.agg (tokC (.int .u64 0) (.string ⟨#[]⟩) (.slice none 0 0) (.bool false) Tg.zero), .int .i64 2])) W := by
  rw [hpn]
  exact ⟨none, 0, 0, rfl, .nil _ _ _ _ _, hB⟩
set_option maxRecDepth 100000 in
set_option maxHeartbeats 1000000 in
theorem c_decode (A : Option Addr) (n c : Nat) (xs : List UInt8) (ok : Nat → Prop) (w : World) (hR : kU8.Row ok w A n c xs) (hn : n ≤ 1099511627776) :
    Calls Tryd.prog 140 #[.slice A n c] w (Decoded w (pdec xs)) := by
  have HR := hide hR
  have HN := hide hn
  have HL := hide hR.1
  clear hR hn
  obtain ⟨s0, hs0⟩ : ∃ s0, s0 = fall xs := ⟨_, rfl⟩
  have HS0 := hide hs0
  have HSL : Hid (∀ l, s0 = some l → l.length ≤ 1099511627776) := hide (fun l h => by rw [hs0] at h; exact Nat.le_trans (fall_len _ xs l (Nat.le_refl _) h) (by rw [HL.out]; exact HN.out))
  clear hs0
  go_enter Tryd.func140, Tryd.ntmps140
  go_wp2_with fail
  refine (c_fall A n c xs ok _ (HR.out.alloc _) HN.out).mono ?_
  rintro e w1 ⟨b1, v, b, rfl, hb, ho⟩
  rw [← HS0.out] at hb ho
  subst hb
  obtain ⟨A1, c1, rfl, hr⟩ := ho.row
  have HB1 := hide (bnext (below1 _ _) b1)
  have hw1 : w.heap.size < w1.heap.size := by have := b1.size; simp only [World.size_alloc] at this; omega
  have HZ := hide ((b1.block w.heap.size (by simp)).trans (heap_alloc_new _ _))
  have HR1 := hide (hr.bound.more fun k hk => hk.2)
  clear b1 ho hr
  have hrd : RdAt (w1.alloc (.cells #[.slice A1 (s0.getD []).length c1, .bool s0.isNone] 202)) w1.heap.size s0 := ⟨A1, _, c1, _, heap_alloc_new _ _, HR1.out.alloc _, fun r h => by rw [h]; rfl⟩
  have HRD := hide hrd
  clear hrd
  go_wp2_with fail
  refine (c_pknumber (w1.alloc (.cells #[.slice A1 (s0.getD []).length c1, .bool s0.isNone] 202)) w1.heap.size 1 s0 _ rfl HRD.out).mono ?_
  rintro e w2 ⟨k, rfl, hk, hkx, h1, h2⟩
  obtain ⟨s1, hs1⟩ : ∃ s1, s1 = (s0.bind (pnum 1)).map (·.2) := ⟨_, rfl⟩
  rw [← hs1] at h2
  have HS1 := hide hs1
  have HK := hide hk
  have HKX := hide hkx
  have HR2 := hide h2
  have HO2 := hide h1
  have hw2 : w1.heap.size < w2.heap.size := by have := h1.size; simp only [World.size_alloc] at this; omega
  clear hk hkx h1 h2 hs1
  go_wp2_with fail
  refine (c_rtake w2 w1.heap.size 2 s1 _ rfl HR2.out).mono ?_
  rintro e w3 ⟨d, rfl, hd, hdx, h1, h2⟩
  obtain ⟨s2, hs2⟩ : ∃ s2, s2 = (s1.bind (ptake 2)).map (·.2) := ⟨_, rfl⟩
  rw [← hs2] at h2
  have HS2 := hide hs2
  have HD := hide hd
  have HDX := hide hdx
  have HR3 := hide h2
  have HO3 := hide (HO2.out.trans h1)
  have hw3 : w1.heap.size < w3.heap.size := by have := h1.size; omega
  clear hd hdx h1 h2 hs2
  go_wp2_with fail
  refine (c_rcavs (w3.alloc (.cells (tokC (.int .u64 (k : Int)) (.string d) (.slice none 0 0) (.bool false) Tg.zero) 44)) w1.heap.size s2 (HR3.out.below (below1 _ _)) ?_).mono ?_
  · have hl1 : ∀ l, s1 = some l → l.length ≤ 1099511627776 := by
      rw [HS1.out]
      exact pbind_len HSL.out fun l x r h => by have := pnum_len h; omega
    rw [HS2.out]
    exact pbind_len hl1 fun l x r h => by have := ptake_len h; omega
  rintro e w4 ⟨v4, rfl, h1, ho, h2⟩
  obtain ⟨s3, hs3⟩ : ∃ s3, s3 = (s2.bind pcavs).map (·.2) := ⟨_, rfl⟩
  obtain ⟨cs, hcs⟩ : ∃ cs, cs = ((s2.bind pcavs).map (·.1)).getD [] := ⟨_, rfl⟩
  rw [← hs3] at h2
  rw [← hcs] at ho
  obtain ⟨A4, c4, rfl⟩ := ho.form
  have HS3 := hide hs3
  have HCS := hide hcs
  have HR4 := hide h2
  have HO4 := hide h1
  have HV4 := hide ho
  have hw4 : w3.heap.size < w4.heap.size := by have := h1.size; simp only [World.size_alloc] at this; omega
  have hq4 : w4.heap[w3.heap.size]? = some (.cells (tokC (.int .u64 (k : Int)) (.string d) (.slice none 0 0) (.bool false) Tg.zero) 44 (0, 0)) := (h1.2.2.2.2 _ (by simp) (by omega)).trans (heap_alloc_new _ _)
  have HQ4 := hide hq4
  have hy2 : w4.cell? ⟨w3.heap.size, 2, none⟩ = some (.slice none 0 0) := (cell_of_row w4 _ _ _ _ _ hq4).trans (tokC_2 _ _ _ _ _)
  have hyf : ∀ j, w4.frozen? ⟨w3.heap.size, j, none⟩ = false := fun j => frozen_of_row w4 _ _ _ _ hq4
  clear h1 h2 ho hs3 hcs hq4
  go_wp2_with fail
  refine (c_rtake (w4.setCell ⟨w3.heap.size, 2, none⟩ (.slice A4 cs.length c4)) w1.heap.size 7 s3 _ rfl (HR4.out.keep fun k hk => Below.heap_setCell _ _ _ _ (by show k ≠ w3.heap.size; omega))).mono ?_
  rintro e w5 ⟨f, rfl, hf, hfx, h1, h2⟩
  obtain ⟨s4, hs4⟩ : ∃ s4, s4 = (s3.bind (ptake 7)).map (·.2) := ⟨_, rfl⟩
  rw [← hs4] at h2
  have HS4 := hide hs4
  have HFX := hide hfx
  have HR5 := hide h2
  have HO5 := hide h1
  have hw5 : w4.heap.size ≤ w5.heap.size := by have := h1.size; simpa using this
  have hq5 : w5.heap[w3.heap.size]? = some (.cells (tokC (.int .u64 (k : Int)) (.string d) (.slice A4 cs.length c4) (.bool false) Tg.zero) 44 (0, 0)) :=
    (h1.2.2.2.2 _ (by simp; omega) (by omega)).trans ((heap_cellAt HQ4.out _).trans (by rw [tokC_set2]))
  have HQ5 := hide hq5
  have hz3 : w5.cell? ⟨w3.heap.size, 3, none⟩ = some (.bool false) := (cell_of_row w5 _ _ _ _ _ hq5).trans (tokC_3 _ _ _ _ _)
  have hzf : ∀ j, w5.frozen? ⟨w3.heap.size, j, none⟩ = false := fun j => frozen_of_row w5 _ _ _ _ hq5
  obtain ⟨fb, hfb⟩ : ∃ fb, fb = (f.toList == [1]) := ⟨_, rfl⟩
  have HFB := hide (hfb.trans (flag_eq f 1))
  clear h1 h2 hf hfx hs4 hq5 hy2 hyf
  go_wp2_with fail
  rw [← hfb]
  clear hfb
  refine (c_rtake (w5.setCell ⟨w3.heap.size, 3, none⟩ (.bool fb)) w1.heap.size 8 s4 _ rfl (HR5.out.keep fun k hk => Below.heap_setCell _ _ _ _ (by show k ≠ w3.heap.size; omega))).mono ?_
  rintro e w6 ⟨m, rfl, hm, hmx, h1, h2⟩
  obtain ⟨s5, hs5⟩ : ∃ s5, s5 = (s4.bind (ptake 8)).map (·.2) := ⟨_, rfl⟩
  rw [← hs5] at h2
  have HPD : Hid (pdec xs = _) := hide (pdec_eq (by rw [HS1.out, HS0.out]) (by rw [← HS0.out]; exact HKX.out) HS2.out HDX.out HS3.out HCS.out HS4.out HFX.out hs5 hmx)
  have HM := hide hm
  have HR6 := hide h2
  have HO6 := hide h1
  have hw6 : w5.heap.size ≤ w6.heap.size := by have := h1.size; simpa using this
  have hq6 : w6.heap[w3.heap.size]? = some (.cells (tokC (.int .u64 (k : Int)) (.string d) (.slice A4 cs.length c4) (.bool fb) Tg.zero) 44 (0, 0)) :=
    (h1.2.2.2.2 _ (by simp; omega) (by omega)).trans ((heap_cellAt HQ5.out _).trans (by rw [tokC_set3]))
  have HQ6 := hide hq6
  clear h1 h2 hm hmx hs5 hq6 hz3 hzf
  go_wp2_with (refine at_tobytes (P := Tryd.prog) 9 22 m rfl Tryd.underlying9 Tryd.underlying22 Tryd.underlying5 HM.out _ rfl ?_)
  intro c7 w7 hr7 b7 hl7
  have HR7 := hide hr7
  have HB7 := hide b7
  clear hr7 b7
  go_wp2_with fail
  refine (c_tagof _ _ c7 _ _ _ HR7.out).mono ?_
  rintro e w8 ⟨rfl, b8⟩
  have hw8 : w6.heap.size < w8.heap.size := by have := b8.size; omega
  have HB8 : Hid (Below w6.heap.size w6 w8) := hide (bnext HB7.out b8)
  have HR8 := hide (HR6.out.below HB8.out)
  have hq8 := (HB8.out.block _ (by omega)).trans HQ6.out
  have hr8 := row_of hq8
  clear b8
  have hBB : Below w1.heap.size w1 w8 := by
    have B1 : Below w1.heap.size w1 w3 := (below1 w1 (.cells #[.slice A1 (s0.getD []).length c1, .bool s0.isNone] 202)).trans (HO3.out.b (Nat.le_refl _) (by simp))
    have B2 : Below w1.heap.size w3 w4 := ((below1 w3 _).mono (by omega)).trans (HO4.out.b (Nat.le_refl _) (by simp; omega))
    have B3 : Below w1.heap.size w4 w5 := ((Below.refl _ _).setCell (by show _ ≤ w3.heap.size; omega) _).trans (HO5.out.b (Nat.le_refl _) (by simp; omega))
    have B4 : Below w1.heap.size w5 w6 := ((Below.refl _ _).setCell (by show _ ≤ w3.heap.size; omega) _).trans (HO6.out.b (Nat.le_refl _) (by simp; omega))
    exact (((B1.trans B2).trans B3).trans B4).trans (HB8.out.mono (by omega))
  have HBW : Hid (Below w.heap.size w w8) := hide (HB1.out.trans (hBB.mono HB1.out.size))
  have hz8 : row? w8 w.heap.size = some (tokC (.int .u64 0) (.string ⟨#[]⟩) (.slice none 0 0) (.bool false) Tg.zero) := row_of ((hBB.block _ hw1).trans HZ.out)
  have HV8 : Hid (kCav.Own (fun _ => False) (w3.heap.size + 1) w8 83 (.slice A4 cs.length c4) cs) := hide (by
    have h := HV4.out
    simp only [World.size_alloc] at h
    exact (own_only (own_set (own_only (own_set h (by omega) 2 _) (by omega) HO5.out) (by omega) 3 _) (by omega) HO6.out).below HB8.out |> fun x => x)
  obtain ⟨A9, n9, c9, l9, hg9, hrow9, hl9⟩ := HR8.out
  have HL9 := hide hl9
  have HN9 := hide hrow9.1
  have hx0 : w8.cell? ⟨w1.heap.size, 0, none⟩ = some (.slice A9 n9 c9) := (cell_of_row w8 _ _ _ _ _ hg9).trans rfl
  have hx1 : w8.cell? ⟨w1.heap.size, 1, none⟩ = some (.bool s5.isNone) := (cell_of_row w8 _ _ _ _ _ hg9).trans rfl
  have hgq : ¬ w1.heap.size = w3.heap.size := by omega
  have hqr : ¬ w3.heap.size = w.heap.size := by omega
  have hrq : ¬ w.heap.size = w3.heap.size := by omega
  have hsz8 : w3.heap.size < w8.heap.size := by omega
  have hsr8 : w.heap.size < w8.heap.size := by omega
  have hsg8 : w1.heap.size < w8.heap.size := by omega
  have hrr : ∀ X, row? (w8.setRow w3.heap.size X) w.heap.size = some (tokC (.int .u64 0) (.string ⟨#[]⟩) (.slice none 0 0) (.bool false) Tg.zero) := fun X => (row_setRow_far _ _ _ _ hrq).trans hz8
  have HQ8 := hide hq8
  clear hg9 hrow9 hl9 hq8
  cases ht : tagOf (byt m) with
  | none =>
    have HPN : Hid (pdec xs = none) := hide (by rw [HPD.out, ht]; cases s5 <;> rfl)
    clear ht
    unfold tagV
    cases s5 with
    | none =>
      go_wp2_with fail
      exact bodyPost_ret (v := .tuple #[.agg (tokC (.int .u64 0) (.string ⟨#[]⟩) (.slice none 0 0) (.bool false) Tg.zero), .int .i64 2]) (by simp [results, Tryd.results140, go_sem, hrr, hsr8]) rfl (dec_fail HPN.out (by repeat (first | exact HBW.out | refine Below.alloc ?_ (by simp; omega) _ | refine bsetRow ?_ (by omega) _)))
    | some l5 =>
      go_wp2_with fail
      exact bodyPost_ret (v := .tuple #[.agg (tokC (.int .u64 0) (.string ⟨#[]⟩) (.slice none 0 0) (.bool false) Tg.zero), .int .i64 2]) (by simp [results, Tryd.results140, go_sem, hrr, hsr8]) rfl (dec_fail HPN.out (by repeat (first | exact HBW.out | refine Below.alloc ?_ (by simp; omega) _ | refine bsetRow ?_ (by omega) _)))
  | some t =>
    unfold tagV
    cases s5 with
    | none =>
      have HPN : Hid (pdec xs = none) := hide (by rw [HPD.out]; rfl)
      clear ht
      go_wp2_with fail
      exact bodyPost_ret (v := .tuple #[.agg (tokC (.int .u64 0) (.string ⟨#[]⟩) (.slice none 0 0) (.bool false) Tg.zero), .int .i64 2]) (by simp [results, Tryd.results140, go_sem, hrr, hsr8]) rfl (dec_fail HPN.out (by repeat (first | exact HBW.out | refine Below.alloc ?_ (by simp; omega) _ | refine bsetRow ?_ (by omega) _)))
    | some l5 =>
      have HPE : Hid (pdec xs = if l5 = [] ∧ (f = b0 ∨ f = b1) ∧ checkT ⟨k, d, cs, decide (f = b1), t⟩ = true then some ⟨k, d, cs, decide (f = b1), t⟩ else none) := hide (by rw [HPD.out, ht]; rfl)
      clear ht
      have hl9 := HL9.out l5 rfl
      by_cases h5 : n9 = 0
      · have h5' : l5 = [] := List.eq_nil_of_length_eq_zero (by rw [← hl9, HN9.out, h5])
        subst h5
        by_cases hgood : f = b0 ∨ f = b1
        · have hBF : (fb = true ∧ ¬ f.toList = [0]) ∨ (fb = false ∧ f.toList = [0]) := by
            rcases hgood with h | h
            · right
              refine ⟨by rw [HFB.out, h]; decide, by rw [h, ByteArray.toList_eq]; rfl⟩
            · left
              refine ⟨by rw [HFB.out, h]; decide, by rw [h, ByteArray.toList_eq]; decide⟩
          have HPE2 : Hid (pdec xs = if checkT ⟨k, d, cs, fb, t⟩ = true then some ⟨k, d, cs, fb, t⟩ else none) := hide (by
            have hq : fb = decide (f = b1) := HFB.out
            rw [HPE.out, hq]
            show (if l5 = [] ∧ (f = b0 ∨ f = b1) ∧ checkT ⟨k, d, cs, decide (f = b1), t⟩ = true then _ else _) = if checkT ⟨k, d, cs, decide (f = b1), t⟩ = true then _ else _
            simp only [h5', hgood, true_and])
          have HV9 := hide ((own_rowC HV8.out (Nat.lt_succ_self _) (tokC (.int .u64 (k : Int)) (.string d) (.slice A4 cs.length c4) (.bool fb) t)).below (below1 _ (.cells (tgC t) 29)))
          have HBX : Hid (Below w.heap.size w ((w8.setRow w3.heap.size (tokC (.int .u64 (k : Int)) (.string d) (.slice A4 cs.length c4) (.bool fb) t)).alloc (.cells (tgC t) 29))) := hide ((bsetRow HBW.out (by omega) _).alloc (by simp; omega) _)
          have hrx : row? ((w8.setRow w3.heap.size (tokC (.int .u64 (k : Int)) (.string d) (.slice A4 cs.length c4) (.bool fb) t)).alloc (.cells (tgC t) 29)) w.heap.size = some (tokC (.int .u64 0) (.string ⟨#[]⟩) (.slice none 0 0) (.bool false) Tg.zero) := by
            rw [row_alloc_past _ _ _ (by simp; omega)]
            exact hrr _
          have HRX := hide hrx
          have HQX : Hid (((w8.setRow w3.heap.size (tokC (.int .u64 (k : Int)) (.string d) (.slice A4 cs.length c4) (.bool fb) t)).alloc (.cells (tgC t) 29)).heap[w3.heap.size]? = some (.cells (tokC (.int .u64 (k : Int)) (.string d) (.slice A4 cs.length c4) (.bool fb) t) 44)) := hide ((Below.heap_alloc _ _ _ (by simp; omega)).trans (setRow_heap _ _ _ _ _ _ HQ8.out))
          have HSX : Hid (w.heap.size < ((w8.setRow w3.heap.size (tokC (.int .u64 (k : Int)) (.string d) (.slice A4 cs.length c4) (.bool fb) t)).alloc (.cells (tgC t) 29)).heap.size ∧ w3.heap.size < ((w8.setRow w3.heap.size (tokC (.int .u64 (k : Int)) (.string d) (.slice A4 cs.length c4) (.bool fb) t)).alloc (.cells (tgC t) 29)).heap.size) := hide (by simp; omega)
          clear hgood h5' hl9 hrx
          rcases hBF with ⟨rfl, hz⟩ | ⟨rfl, hz⟩
          · go_wp2_with fail
            refine (c_check ⟨k, d, cs, true, t⟩ A4 cs.length c4 _ _ (own_row_of HV9.out)).mono ?_
            rintro e w9 ⟨rfl, b9⟩
            have HB9 := hide b9
            have hs9 := b9.size
            have hsx := HSX.out
            have hr9 : row? w9 w.heap.size = some (tokC (.int .u64 0) (.string ⟨#[]⟩) (.slice none 0 0) (.bool false) Tg.zero) := by
              have := HRX.out
              unfold row? at this ⊢
              rw [b9.block _ hsx.1]
              exact this
            have ha9 : agg? w9 ⟨w3.heap.size, 0, none⟩ 36 = some (tokC (.int .u64 (k : Int)) (.string d) (.slice A4 cs.length c4) (.bool true) t) := by
              rw [agg_of_row ((b9.block _ hsx.2).trans HQX.out) 0 36 (by decide)]
              exact tokC_part _ _ _ _ _
            have HW9 := hide (HBX.out.trans (b9.mono HBX.out.size))
            clear b9
            cases hc : checkT ⟨k, d, cs, true, t⟩ with
            | true =>
              have HPS : Hid (pdec xs = some ⟨k, d, cs, true, t⟩) := hide (by rw [HPE2.out, hc]; rfl)
              have HVF := hide ((own_row_of' HV9.out HB9.out))
              clear hc
              simp only [errV]
              go_wp2_with fail
              exact bodyPost_ret (v := .tuple #[.agg (tokC (.int .u64 (k : Int)) (.string d) (.slice A4 cs.length c4) (.bool true) t), .int .i64 0]) (by simp [results, Tryd.results140, go_sem, hr9]) rfl (by
                rw [HPS.out]
                exact ⟨A4, cs.length, c4, rfl, (own_rowC HVF.out (by omega) _).lower (by omega), bsetRow HW9.out (Nat.le_refl _) _⟩)
            | false =>
              have HPN : Hid (pdec xs = none) := hide (by rw [HPE2.out, hc]; rfl)
              clear hc
              simp only [errV]
              go_wp2_with fail
              exact bodyPost_ret (v := .tuple #[.agg (tokC (.int .u64 0) (.string ⟨#[]⟩) (.slice none 0 0) (.bool false) Tg.zero), .int .i64 2]) (by simp [results, Tryd.results140, go_sem, hr9]) rfl (dec_fail HPN.out (bsetRow HW9.out (Nat.le_refl _) _))
          · go_wp2_with fail
            refine (c_check ⟨k, d, cs, false, t⟩ A4 cs.length c4 _ _ (own_row_of HV9.out)).mono ?_
            rintro e w9 ⟨rfl, b9⟩
            have HB9 := hide b9
            have hs9 := b9.size
            have hsx := HSX.out
            have hr9 : row? w9 w.heap.size = some (tokC (.int .u64 0) (.string ⟨#[]⟩) (.slice none 0 0) (.bool false) Tg.zero) := by
              have := HRX.out
              unfold row? at this ⊢
              rw [b9.block _ hsx.1]
              exact this
            have ha9 : agg? w9 ⟨w3.heap.size, 0, none⟩ 36 = some (tokC (.int .u64 (k : Int)) (.string d) (.slice A4 cs.length c4) (.bool false) t) := by
              rw [agg_of_row ((b9.block _ hsx.2).trans HQX.out) 0 36 (by decide)]
              exact tokC_part _ _ _ _ _
            have HW9 := hide (HBX.out.trans (b9.mono HBX.out.size))
            clear b9
            cases hc : checkT ⟨k, d, cs, false, t⟩ with
            | true =>
              have HPS : Hid (pdec xs = some ⟨k, d, cs, false, t⟩) := hide (by rw [HPE2.out, hc]; rfl)
              have HVF := hide ((own_row_of' HV9.out HB9.out))
              clear hc
              simp only [errV]
              go_wp2_with fail
              exact bodyPost_ret (v := .tuple #[.agg (tokC (.int .u64 (k : Int)) (.string d) (.slice A4 cs.length c4) (.bool false) t), .int .i64 0]) (by simp [results, Tryd.results140, go_sem, hr9]) rfl (by
                rw [HPS.out]
                exact ⟨A4, cs.length, c4, rfl, (own_rowC HVF.out (by omega) _).lower (by omega), bsetRow HW9.out (Nat.le_refl _) _⟩)
            | false =>
              have HPN : Hid (pdec xs = none) := hide (by rw [HPE2.out, hc]; rfl)
              clear hc
              simp only [errV]
              go_wp2_with fail
              exact bodyPost_ret (v := .tuple #[.agg (tokC (.int .u64 0) (.string ⟨#[]⟩) (.slice none 0 0) (.bool false) Tg.zero), .int .i64 2]) (by simp [results, Tryd.results140, go_sem, hr9]) rfl (dec_fail HPN.out (bsetRow HW9.out (Nat.le_refl _) _))
        · have HPN : Hid (pdec xs = none) := hide (by
            rw [HPE.out, if_neg]
            rintro ⟨_, h, _⟩
            exact hgood h)
          have hfb : fb = false := by
            rw [HFB.out]
            exact decide_eq_false fun h => hgood (.inr h)
          have hz : ¬ f.toList = [0] := fun h => hgood (.inl ((bytes_inj _ _).1 (h.trans (by rw [ByteArray.toList_eq]; rfl))))
          subst hfb
          clear hgood h5' hl9
          go_wp2_with fail
          exact bodyPost_ret (v := .tuple #[.agg (tokC (.int .u64 0) (.string ⟨#[]⟩) (.slice none 0 0) (.bool false) Tg.zero), .int .i64 2]) (by simp [results, Tryd.results140, go_sem, hrr, hsr8]) rfl (dec_fail HPN.out (by repeat (first | exact HBW.out | refine Below.alloc ?_ (by simp; omega) _ | refine bsetRow ?_ (by omega) _)))
      · have HPN : Hid (pdec xs = none) := hide (by
          rw [HPE.out, if_neg]
          rintro ⟨h, _⟩
          exact h5 (by rw [← HN9.out, hl9, h]; rfl))
        clear hl9
        have h5' : 0 < n9 := by omega
        go_wp2_with fail
        exact bodyPost_ret (v := .tuple #[.agg (tokC (.int .u64 0) (.string ⟨#[]⟩) (.slice none 0 0) (.bool false) Tg.zero), .int .i64 2]) (by simp [results, Tryd.results140, go_sem, hrr, hsr8]) rfl (dec_fail HPN.out (by repeat (first | exact HBW.out | refine Below.alloc ?_ (by simp; omega) _ | refine bsetRow ?_ (by omega) _)))
end Go.Proofs.YtdkeflhgengblaaDoor
namespace Go.Proofs.YtdkeflhgengblaaDoor
open Go.RowKit
attribute [local go_sem ↓] ld16 ld17 ld32 ld36
attribute [local go_sem] run_ldAgg run_storeAgg agg_alloc_at agg_alloc_past agg_drew agg_setCell row_alloc_at row_alloc_past row_drew setRow_alloc_at setRow_alloc_past setRow_drew agg_setRow_at agg_setRow_far cell_setRow_at cell_setRow_far row_setRow_far size_setRow tgC_size tgC_one tgC_part tgC_splice tokC_size tokC_0 tokC_1 tokC_2 tokC_3 tokC_g0 tokC_g1 tokC_g2 tokC_g3 tokC_part tokC_tag tokC_set0 tokC_set1 tokC_set2 tokC_set3 tokC_splice tokC_splice0 tgC_splice_any zero_tg zero_tok tokC_all tokC_ne tgC_ne

def flagB (b : Bool) : ByteArray := if b then b1 else b0
def encFlds (t : Tok) : List Fld := [⟨1, txt (vput t.key)⟩, ⟨2, t.id⟩] ++ t.cavs.flatMap cavFlds ++ [⟨7, flagB t.bnd⟩, ⟨8, txt t.tag.l⟩]
/-- A token's bytes, of one that can be. -/
def enc (t : Tok) : List UInt8 := fjoin (encFlds t)
theorem can_small {x : Cav} (h : canC x = true) : x.text.size ≤ 512 ∧ x.id.size ≤ 1024 ∧ x.vault.size ≤ 1024 := by
  unfold canC at h
  cases h3 : x.third with
  | true =>
    rw [h3] at h
    simp at h
    obtain ⟨⟨h1, h2⟩, h4⟩ := h
    rw [h1]
    exact ⟨by decide, h2, h4⟩
  | false =>
    rw [h3] at h
    simp [cav_mk] at h
    obtain ⟨h1, _, _, h4, h5⟩ := h
    rw [h4, h5]
    exact ⟨h1, by decide, by decide⟩
theorem cav_len {x : Cav} (h : canC x = true) (hp : x.party < 18446744073709551616) : (fjoin (cavFlds x)).length ≤ 5000 := by
  obtain ⟨h1, h2, h3⟩ := can_small h
  have hn := vput_len10 hp
  have e1 := fput_len ⟨4, txt (vput x.party)⟩ (by rw [txt_size]; omega)
  have e2 := fput_len ⟨5, x.id⟩ (by simp only; omega)
  have e3 := fput_len ⟨6, x.vault⟩ (by simp only; omega)
  have e4 := fput_len ⟨3, x.text⟩ (by simp only; omega)
  simp only [txt_size] at e1 e2 e3 e4
  unfold cavFlds
  split <;> simp [fjoin] <;> omega
def Encoded (w : World) (t : Tok) (e : Ending) (w' : World) : Prop :=
  ∃ v, e = .returned (.tuple #[v, errV (checkT t)]) ∧ kU8.Own (fun _ => True) w.heap.size w' 5 v (if checkT t then enc t else []) ∧ Below w.heap.size w w'

set_option maxRecDepth 100000 in
set_option maxHeartbeats 600000 in
theorem c_encode (t : Tok) (A : Option Addr) (n c : Nat) (ok : Nat → Prop) (w : World) (hR : kCav.Row ok w A n c t.cavs) (hk : t.key < 18446744073709551616) :
    Calls Tryd.prog 58 #[tokV t A n c] w (Encoded w t) := by
  have HL := hide hR.1
  have hm : n ≤ 9223372036854775807 := Nat.le_trans hR.2.1 hR.2.2.1
  have HR := hide hR
  have HK := hide hk
  clear hR hk
  cases hc : checkT t with
  | false =>
    have HC := hide hc
    clear hc
    go_enter Tryd.func58, Tryd.ntmps58
    go_wp2_with fail
    refine (c_check t A n c ok _ (HR.out.below (below1 _ _))).mono ?_
    rintro e w1 ⟨rfl, b1⟩
    have HB := hide (bnext (below1 _ _) b1)
    clear b1
    rw [HC.out]
    simp only [errV]
    go_wp2_with fail
    exact bodyPost_ret (v := .tuple #[.slice none 0 0, .int .i64 1]) (by simp [results, Tryd.results58, go_sem]) rfl ⟨_, by rw [HC.out]; rfl, by rw [HC.out]; exact .nil _ _ _ _ _, HB.out⟩
  | true =>
    have hsm : t.id.size ≤ 1024 ∧ t.cavs.length ≤ 64 ∧ t.cavs.all canC = true := by
      simp only [checkT, Bool.and_eq_true, decide_eq_true_eq] at hc
      exact ⟨hc.1.1, hc.1.2, hc.2⟩
    have HC := hide hc
    have HSM := hide hsm
    have hn64 : n ≤ 64 := by rw [← HL.out]; exact hsm.2.1
    clear hc hsm
    go_enter Tryd.func58, Tryd.ntmps58
    go_wp2_with fail
    refine (c_check t A n c ok _ (HR.out.below (below1 _ _))).mono ?_
    rintro e w1 ⟨rfl, b1⟩
    have HB := hide b1
    have hg1 : w1.heap[w.heap.size]? = some (.cells (tokC (.int .u64 (t.key : Int)) (.string t.id) (.slice A n c) (.bool t.bnd) t.tag) 44) := (b1.block _ (by simp)).trans (heap_alloc_new _ _)
    have HG1 := hide hg1
    have HB1 := hide (bnext (below1 _ _) b1)
    clear b1
    rw [HC.out]
    simp only [errV]
    have hl1 : fjoin [⟨1, txt (vput t.key)⟩, ⟨2, t.id⟩] = fjoin [⟨1, txt (vput t.key)⟩, ⟨2, t.id⟩] := rfl
    have hnum : (txt (vput t.key)).size ≤ 10 := by rw [txt_size]; exact vput_len10 HK.out
    have hsz : (fjoin [⟨1, txt (vput t.key)⟩, ⟨2, t.id⟩]).length ≤ 1100 := by
      have h1 := fput_len ⟨1, txt (vput t.key)⟩ (by simp only; omega)
      have h2 := fput_len ⟨2, t.id⟩ (by have := HSM.out.1; simp only; omega)
      have := HSM.out.1
      simp [fjoin]
      simp at *
      omega
    have hv1 : ∀ f ∈ [(⟨1, txt (vput t.key)⟩ : Fld), ⟨2, t.id⟩], f.value.size ≤ 1099511627776 := by
      have := HSM.out.1
      simp
      omega
    have HSZ := hide hsz
    have HV1 := hide hv1
    clear hsz hv1 hl1 hnum
    go_wp2_with fail
    refine wp_region_ext mixed 8 (fun i v w' => match i with
      | 0 => v = .pointer (some ⟨w.heap.size, 0, none⟩)
      | 1 => v = .int .u64 (t.key : Int)
      | 2 => v = .string (txt (vput t.key))
      | 3 => v = .agg #[.int .u8 1, .string (txt (vput t.key))]
      | 4 => v = .pointer (some ⟨w.heap.size, 1, none⟩)
      | 5 => v = .string t.id
      | 6 => v = .agg #[.int .u8 2, .string t.id]
      | _ => ∃ g, v = .slice (some ⟨g, 0, none⟩) 2 2 ∧ w'.heap[g]? = some (.cells #[.int .u8 1, .string (txt (vput t.key)), .int .u8 2, .string t.id] 144)
      ) (by kernel_rfl) rfl ?_ ?_ ?_
    · intro i v w1 w2 h1 h2
      split at h2 <;> first | exact h2 | (obtain ⟨g, rfl, hg⟩ := h2; exact ⟨g, rfl, h1.heap hg⟩)
    · refine ⟨fun a w2 hle hd hf hs K hK => ?_, fun a w2 hle hd hf hs K hK => ?_, fun a w2 hle hd hf hs K hK => ?_, fun a w2 hle hd hf hs K hK => ?_, fun a w2 hle hd hf hs K hK => ?_, fun a w2 hle hd hf hs K hK => ?_, fun a w2 hle hd hf hs K hK => ?_, fun a w2 hle hd hf hs K hK => ?_, trivial⟩
      all_goals clear hd
      · have e1 := hf 1 rfl; simp [Act.eval] at e1
        go_simp; exact hK _ _ (Ext.refl _) rfl
      · have e14 := hs 0 14 (by kernel_rfl) rfl; simp [Act.eval] at e14
        have hc : w2.cell? ⟨w.heap.size, 0, none⟩ = some (.int .u64 (t.key : Int)) := (cell_of_row w2 _ _ _ _ _ (hle.heap HG1.out)).trans (tokC_0 _ _ _ _ _)
        go_simp; exact hK _ _ (Ext.refl _) rfl
      · have e15 := hs 1 15 (by kernel_rfl) rfl; simp [Act.eval] at e15
        go_simp
        refine (c_pnumber t.key _ w2 rfl HK.out).mono ?_
        rintro e w3 ⟨rfl, b⟩
        exact hK _ _ b rfl
      · have e16 := hs 2 16 (by kernel_rfl) rfl; simp [Act.eval] at e16
        go_simp; exact hK _ _ (Ext.refl _) rfl
      · have e1 := hf 1 rfl; simp [Act.eval] at e1
        go_simp; exact hK _ _ (Ext.refl _) rfl
      · have e18 := hs 4 18 (by kernel_rfl) rfl; simp [Act.eval] at e18
        have hc : w2.cell? ⟨w.heap.size, 1, none⟩ = some (.string t.id) := (cell_of_row w2 _ _ _ _ _ (hle.heap HG1.out)).trans (tokC_1 _ _ _ _ _)
        go_simp; exact hK _ _ (Ext.refl _) rfl
      · have e19 := hs 5 19 (by kernel_rfl) rfl; simp [Act.eval] at e19
        go_simp; exact hK _ _ (Ext.refl _) rfl
      · have e17 := hs 3 17 (by kernel_rfl) rfl; have e20 := hs 6 20 (by kernel_rfl) rfl; simp [Act.eval] at e17 e20
        go_simp; exact hK _ _ (Ext.alloc _ _) ⟨_, rfl, heap_alloc_new _ _⟩
    intro vs w2 hle hs
    have v7 := hs 7 (by omega) rfl
    simp only at v7
    clear hs
    obtain ⟨g, v7, hg⟩ := v7
    simp only [putN, dstAt]
    have HLE := hide hle
    have HG := hide hg
    have HG2 := hide (hle.heap HG1.out)
    clear hle hg
    go_simp
    go_wp2_with fail
    refine (c_fjoin (some ⟨g, 0, none⟩) 2 2 [⟨1, txt (vput t.key)⟩, ⟨2, t.id⟩] (fun _ => True) _ ((flds_els (fun f hf => Nat.le_trans (HV1.out f hf) (by decide))).rowAt HG.out rfl trivial (by simp [maxLen])) (Nat.le_trans HSZ.out (by decide)) HV1.out).mono ?_
    rintro e w3 ⟨v3, rfl, ho, hb⟩
    have HB3 := hide (HB1.out.trans (((HLE.out.mono HB1.out.size)).trans (hb.mono (Nat.le_trans HB1.out.size HLE.out.size))))
    have HO3 := hide (ho.lower (base' := w2.heap.size) (Nat.le_refl _))
    have hg3 := (hb.block _ (Array.getElem?_eq_some_iff.1 HG2.out).1).trans HG2.out
    have HG3 := hide hg3
    have hw23 := hb.size
    have hgl : w.heap.size < w2.heap.size := (Array.getElem?_eq_some_iff.1 HG2.out).1
    have hy2 : w3.cell? ⟨w.heap.size, 2, none⟩ = some (.slice A n c) := (cell_of_row w3 _ _ _ _ _ hg3).trans (tokC_2 _ _ _ _ _)
    clear ho hb hg3
    go_wp2_with fail
    go_loopw [26, 5] (fun i p wr => ∃ k : Nat, k ≤ n ∧ i = .int .i64 (k : Int) ∧ Hid (kU8.Own (fun _ => True) w2.heap.size wr 5 p (fjoin ([⟨1, txt (vput t.key)⟩, ⟨2, t.id⟩] ++ (t.cavs.take k).flatMap cavFlds))) ∧ Hid ((fjoin ([⟨1, txt (vput t.key)⟩, ⟨2, t.id⟩] ++ (t.cavs.take k).flatMap cavFlds)).length ≤ 1100 + 5000 * k) ∧ Hid (Below w2.heap.size w3 wr)) (fun i _ _ => n - (intOf i).toNat)
    case atStart => exact ⟨0, Nat.zero_le _, rfl, hide (by simpa using HO3.out), hide (by simpa using HSZ.out), hide (Below.refl _ _)⟩
    case round =>
      obtain ⟨k, hk, rfl, HO, HLN, HBW⟩ := hrel
      by_cases hlt : k < n
      · obtain ⟨x, hx⟩ : ∃ x, t.cavs[k]? = some x := ⟨_, List.getElem?_eq_getElem (by have := HL.out; omega)⟩
        have HRW := HR.out.below (HB3.out.trans (HBW.out.mono (by omega)))
        obtain ⟨b, q, csx, hix, -, hbl, hK, hra⟩ := HRW.index (P := Tryd.prog) Tryd.underlying42 (E := 83) cav_size hx
        have hKe := hK.1
        have HOK := hide hK.2
        subst hKe
        have a0 := hra 0 _ rfl
        have a1 := hra 1 _ rfl
        have a2 := hra 2 _ rfl
        have a3 := hra 3 _ rfl
        have a4 := hra 4 _ rfl
        simp only [Nat.add_zero] at a0
        have hcan : canC x = true := List.all_eq_true.1 HSM.out.2.2 x (List.mem_of_getElem? hx)
        have HSMX := hide (can_small hcan)
        have HCL := hide (cav_len hcan HOK.out.2.1)
        have HTK : Hid (t.cavs.take (k + 1) = t.cavs.take k ++ [x]) := hide (by rw [List.take_add_one, hx]; rfl)
        have hs3 := HBW.out.size
        have hs3' := HB3.out.size
        clear hx HRW hK hra hcan
        go_wp2_with fail
        refine (c_caveat x _ (by have := HSMX.out.1; omega) HOK.out.2.1 (by have := HSMX.out.2.1; omega) (by have := HSMX.out.2.2; omega)).mono ?_
        rintro e w4 ⟨v4, rfl, ho, hb⟩
        have hb' := bnext (below1 wr (.cells #[.bool x.third, .string x.text, .int .u64 (x.party : Int), .string x.id, .string x.vault] 83)) hb
        have HB4 := hide (HBW.out.trans (hb'.mono (by omega)))
        have HOW := hide (HO.out.below hb')
        obtain ⟨A4, c4, rfl, hr4⟩ := ho.row
        have HR4 := hide hr4
        have hs4 := HB4.out.size
        clear ho hb hb' hr4
        go_wp2_with (at_builtin; go_must (refine wpList_app (d := kU8) (ys := fjoin (cavFlds x)) rfl _ _ _ rfl Tryd.underlying22 u8_info rfl (by decide) c4 rfl rfl (.inl HOW.out) (src8 HR4.out.src) ?_ ?_ ?_ ?_))
        · omega
        · have := HLN.out; have := HCL.out; simp only [maxLen]; omega
        · have := HLN.out; have := HCL.out; omega
        · intro v5 w5 _ h2 h3 h4 h5
          have HO5 := hide (h2 (.inr HOW.out))
          have HB5 := hide (HB4.out.trans h3)
          clear h2 h3 h4 h5
          have HEQ : Hid (fjoin ([⟨1, txt (vput t.key)⟩, ⟨2, t.id⟩] ++ (t.cavs.take (k + 1)).flatMap cavFlds) = fjoin ([⟨1, txt (vput t.key)⟩, ⟨2, t.id⟩] ++ (t.cavs.take k).flatMap cavFlds) ++ fjoin (cavFlds x)) := hide (by
            rw [HTK.out, List.flatMap_append, ← List.append_assoc, fjoin_app _ (List.flatMap cavFlds [x])]
            simp)
          go_wp2_with fail
          go_roundw
          case rel =>
            refine ⟨k + 1, by omega, by simp, hide ?_, hide ?_, HB5⟩
            · rw [HEQ.out]; exact HO5.out
            · rw [HEQ.out, List.length_append]
              have := HLN.out; have := HCL.out; omega
          case measure => simp [intOf]; omega
      · obtain rfl : k = n := by omega
        have HTK : Hid (t.cavs.take k = t.cavs) := hide (List.take_of_length_le (Nat.le_of_eq HL.out))
        rw [HTK.out] at HO HLN
        have hgw := (HBW.out.block _ hgl).trans HG3.out
        have HGW := hide hgw
        have hy3 : wr.cell? ⟨w.heap.size, 3, none⟩ = some (.bool t.bnd) := (cell_of_row wr _ _ _ _ _ hgw).trans (tokC_3 _ _ _ _ _)
        have hst := row_string (P := Tryd.prog) Tryd.underlying22 Tryd.underlying5 Tryd.underlying9 (tok_row hgw)
        clear hgw
        cases hbd : t.bnd with
        | true =>
          rw [hbd] at hy3
          have HEN : Hid (enc t = fjoin ([⟨1, txt (vput t.key)⟩, ⟨2, t.id⟩] ++ t.cavs.flatMap cavFlds) ++ fjoin [⟨7, b1⟩, ⟨8, txt t.tag.l⟩]) := hide (by rw [enc, encFlds, fjoin_app, hbd]; rfl)
          have HV2 : Hid (∀ f ∈ [(⟨7, b1⟩ : Fld), ⟨8, txt t.tag.l⟩], f.value.size ≤ 32) := hide (by
            have h1 : (txt t.tag.l).size = 32 := by rw [txt_size, t.tag.len]
            have h2 : (b1).size = 1 := rfl
            simp
            omega)
          have HS2 : Hid ((fjoin [⟨7, b1⟩, ⟨8, txt t.tag.l⟩]).length ≤ 100) := hide (by
            have e1 := fput_len ⟨7, b1⟩ (by decide)
            have e2 := fput_len ⟨8, txt t.tag.l⟩ (by simp only; rw [txt_size, t.tag.len]; decide)
            have h1 : (txt t.tag.l).size = 32 := by rw [txt_size, t.tag.len]
            have h2 : (b1).size = 1 := rfl
            simp only [h1, h2] at e1 e2
            simp [fjoin]
            omega)
          have hws := HBW.out.size
          clear hbd
          go_wp2_with fail
          refine (c_fjoin (some ⟨wr.heap.size, 0, none⟩) 2 2 [⟨7, b1⟩, ⟨8, txt t.tag.l⟩] (fun _ => True) _ ((flds_els (fun f hf => Nat.le_trans (HV2.out f hf) (by decide))).rowAt (C := #[.int .u8 7, .string ⟨#[1]⟩, .int .u8 8, .string (txt t.tag.l)]) (heap_alloc_new _ _) rfl trivial (by simp [maxLen])) (Nat.le_trans HS2.out (by decide)) (fun f hf => Nat.le_trans (HV2.out f hf) (by decide))).mono ?_
          rintro e w4 ⟨v4, rfl, ho, hb⟩
          have hb' := bnext (below1 wr (.cells #[.int .u8 7, .string ⟨#[1]⟩, .int .u8 8, .string (txt t.tag.l)] 144)) hb
          have HB4 := hide (HBW.out.trans (hb'.mono (by omega)))
          have HOW := hide (HO.out.below hb')
          obtain ⟨A4, c4, rfl, hr4⟩ := ho.row
          have HR4 := hide hr4
          have hs4 := HB4.out.size
          clear ho hb hb' hr4
          go_wp2_with (at_builtin; go_must (refine wpList_app (d := kU8) (ys := fjoin [⟨7, b1⟩, ⟨8, txt t.tag.l⟩]) rfl _ _ _ rfl Tryd.underlying22 u8_info rfl (by decide) c4 rfl rfl (.inl HOW.out) (src8 HR4.out.src) ?_ ?_ ?_ ?_))
          · omega
          · have := HLN.out; have := HS2.out; simp only [maxLen]; omega
          · have := HLN.out; have := HS2.out; omega
          · intro v5 w5 _ h2 h3 h4 h5
            have HO5 := hide (h2 (.inr HOW.out))
            have HB5 := hide (HB4.out.trans h3)
            clear h2 h3 h4 h5
            go_wp2_with fail
            exact bodyPost_ret (v := .tuple #[v5, .int .i64 0]) (by simp [results, Tryd.results58, go_sem]) rfl ⟨v5, by rw [HC.out]; rfl, by
              rw [HC.out, if_pos rfl, HEN.out]
              exact HO5.out.lower (by omega), HB3.out.trans (HB5.out.mono (by omega))⟩
        | false =>
          rw [hbd] at hy3
          have HEN : Hid (enc t = fjoin ([⟨1, txt (vput t.key)⟩, ⟨2, t.id⟩] ++ t.cavs.flatMap cavFlds) ++ fjoin [⟨7, b0⟩, ⟨8, txt t.tag.l⟩]) := hide (by rw [enc, encFlds, fjoin_app, hbd]; rfl)
          have HV2 : Hid (∀ f ∈ [(⟨7, b0⟩ : Fld), ⟨8, txt t.tag.l⟩], f.value.size ≤ 32) := hide (by
            have h1 : (txt t.tag.l).size = 32 := by rw [txt_size, t.tag.len]
            have h2 : (b0).size = 1 := rfl
            simp
            omega)
          have HS2 : Hid ((fjoin [⟨7, b0⟩, ⟨8, txt t.tag.l⟩]).length ≤ 100) := hide (by
            have e1 := fput_len ⟨7, b0⟩ (by decide)
            have e2 := fput_len ⟨8, txt t.tag.l⟩ (by simp only; rw [txt_size, t.tag.len]; decide)
            have h1 : (txt t.tag.l).size = 32 := by rw [txt_size, t.tag.len]
            have h2 : (b0).size = 1 := rfl
            simp only [h1, h2] at e1 e2
            simp [fjoin]
            omega)
          have hws := HBW.out.size
          clear hbd
          go_wp2_with fail
          refine (c_fjoin (some ⟨wr.heap.size, 0, none⟩) 2 2 [⟨7, b0⟩, ⟨8, txt t.tag.l⟩] (fun _ => True) _ ((flds_els (fun f hf => Nat.le_trans (HV2.out f hf) (by decide))).rowAt (C := #[.int .u8 7, .string ⟨#[0]⟩, .int .u8 8, .string (txt t.tag.l)]) (heap_alloc_new _ _) rfl trivial (by simp [maxLen])) (Nat.le_trans HS2.out (by decide)) (fun f hf => Nat.le_trans (HV2.out f hf) (by decide))).mono ?_
          rintro e w4 ⟨v4, rfl, ho, hb⟩
          have hb' := bnext (below1 wr (.cells #[.int .u8 7, .string ⟨#[0]⟩, .int .u8 8, .string (txt t.tag.l)] 144)) hb
          have HB4 := hide (HBW.out.trans (hb'.mono (by omega)))
          have HOW := hide (HO.out.below hb')
          obtain ⟨A4, c4, rfl, hr4⟩ := ho.row
          have HR4 := hide hr4
          have hs4 := HB4.out.size
          clear ho hb hb' hr4
          go_wp2_with (at_builtin; go_must (refine wpList_app (d := kU8) (ys := fjoin [⟨7, b0⟩, ⟨8, txt t.tag.l⟩]) rfl _ _ _ rfl Tryd.underlying22 u8_info rfl (by decide) c4 rfl rfl (.inl HOW.out) (src8 HR4.out.src) ?_ ?_ ?_ ?_))
          · omega
          · have := HLN.out; have := HS2.out; simp only [maxLen]; omega
          · have := HLN.out; have := HS2.out; omega
          · intro v5 w5 _ h2 h3 h4 h5
            have HO5 := hide (h2 (.inr HOW.out))
            have HB5 := hide (HB4.out.trans h3)
            clear h2 h3 h4 h5
            go_wp2_with fail
            exact bodyPost_ret (v := .tuple #[v5, .int .i64 0]) (by simp [results, Tryd.results58, go_sem]) rfl ⟨v5, by rw [HC.out]; rfl, by
              rw [HC.out, if_pos rfl, HEN.out]
              exact HO5.out.lower (by omega), HB3.out.trans (HB5.out.mono (by omega))⟩
end Go.Proofs.YtdkeflhgengblaaDoor
namespace Go.Proofs.YtdkeflhgengblaaDoor

theorem ofNat_toNat {n : Nat} (h : n < 256) : (UInt8.ofNat n).toNat = n := by
  simp
  omega
theorem vgo_put : ∀ (n i acc : Nat) (r : List UInt8), i ≤ 9 → n * 128 ^ i < 18446744073709551616 → (i = 0 ∨ n ≠ 0) → vgo i acc (vput n ++ r) = (acc + n * 128 ^ i, i + (vput n).length) := by
  intro n
  induction n using Nat.strongRecOn with
  | ind n ih =>
    intro i acc r hi hn h0
    by_cases h : n < 128
    · rw [vput_lt h]
      have ht : (UInt8.ofNat n).toNat = n := ofNat_toNat (by omega)
      show vgo i acc (UInt8.ofNat n :: r) = _
      rw [vgo_c (by omega) ?_ (by rw [ht]; exact h) (by rw [ht]; omega), ht]
      · rfl
      · rw [ht]
        rintro ⟨rfl, h1⟩
        omega
    · rw [vput_ge h]
      have ht : (UInt8.ofNat (n % 128 + 128)).toNat = n % 128 + 128 := ofNat_toNat (by omega)
      have hi9 : i < 9 := by
        rcases Nat.lt_or_ge i 9 with h' | h'
        · exact h'
        · obtain rfl : i = 9 := by omega
          have : 128 * 128 ^ 9 ≤ n * 128 ^ 9 := Nat.mul_le_mul_right _ (by omega)
          omega
      show vgo i acc (UInt8.ofNat (n % 128 + 128) :: (vput (n / 128) ++ r)) = _
      rw [vgo_d (by omega) (by omega) (by rw [ht]; omega), ht]
      have e : n * 128 ^ i = n % 128 * 128 ^ i + n / 128 * 128 ^ (i + 1) := by
        have := Nat.div_add_mod n 128
        rw [Nat.pow_succ, ← Nat.mul_assoc, Nat.mul_right_comm, ← Nat.add_mul]
        congr 1
        omega
      rw [ih (n / 128) (by omega) (i + 1) _ r (by omega) (by rw [e] at hn; omega) (.inr (by omega))]
      rw [show (n % 128 + 128) % 128 = n % 128 by omega]
      simp only [List.length_cons]
      congr 1
      · omega
      · omega
theorem vget_put {n : Nat} (h : n < 18446744073709551616) (r : List UInt8) : vget (vput n ++ r) = (n, (vput n).length) := by
  have := vgo_put n 0 0 r (by omega) (by simpa using h) (.inl rfl)
  simpa [vget] using this
theorem vgo_back : ∀ (l : List UInt8) (i acc n k : Nat), vgo i acc l = (n, k) → k ≠ 0 → ∃ m, l = vput m ++ l.drop (vput m).length ∧ k = i + (vput m).length ∧ n = acc + m * 128 ^ i ∧ (i = 0 ∨ m ≠ 0)
  | [], i, acc, n, k, h, hk => by simp [vgo] at h; omega
  | x :: l, i, acc, n, k, h, hk => by
    by_cases h10 : 10 ≤ i
    · rw [vgo, if_pos h10] at h; simp at h; omega
    by_cases h9 : i = 9 ∧ 1 < x.toNat
    · rw [vgo_a h9.1 h9.2] at h; simp at h; omega
    by_cases h1 : x.toNat < 128
    · by_cases h2 : 0 < i ∧ x.toNat = 0
      · rw [vgo_b (by omega) h9 h1 h2.1 h2.2] at h; simp at h; omega
      · rw [vgo_c (by omega) h9 h1 h2] at h
        simp only [Prod.mk.injEq] at h
        refine ⟨x.toNat, ?_, ?_, h.1.symm, by omega⟩
        · rw [vput_lt h1]; simp
        · rw [vput_lt h1]; simp; omega
    · rw [vgo_d (by omega) h9 h1] at h
      obtain ⟨m, e1, e2, e3, e4⟩ := vgo_back l (i + 1) _ n k h hk
      have hm : m ≠ 0 := by omega
      have hx := x.toNat_lt
      have hv : vput (x.toNat % 128 + 128 * m) = x :: vput m := by
        rw [vput_ge (by omega)]
        congr 1
        · rw [show (x.toNat % 128 + 128 * m) % 128 + 128 = x.toNat by omega]
          simp
        · congr 1
          omega
      refine ⟨x.toNat % 128 + 128 * m, ?_, ?_, ?_, .inr (by omega)⟩
      · rw [hv]; simpa using e1
      · rw [hv]; simp; omega
      · rw [e3, Nat.pow_succ, Nat.add_mul]
        have : 128 * m * 128 ^ i = m * (128 ^ i * 128) := by rw [Nat.mul_comm (128 ^ i), ← Nat.mul_assoc, Nat.mul_comm m 128]
        omega
theorem vget_back {l : List UInt8} {n k : Nat} (h : vget l = (n, k)) (hk : k ≠ 0) : l = vput n ++ l.drop k ∧ k = (vput n).length := by
  obtain ⟨m, e1, e2, e3, _⟩ := vgo_back l 0 0 n k h hk
  simp at e2 e3
  subst e3 e2
  exact ⟨e1, rfl⟩

theorem fget_put (f : Fld) (h : f.value.size < 18446744073709551616) (r : List UInt8) : fget (fput f ++ r) = some (f, (fput f).length) := by
  show fget (f.kind :: (vput f.value.size ++ byt f.value ++ r)) = _
  rw [List.append_assoc, fget, vget_put h]
  have hp := vput_pos f.value.size
  simp only [List.drop_left]
  rw [if_neg (by
    rintro (h1 | h1)
    · omega
    · rw [List.length_append, byt_len] at h1; omega)]
  have e : txt ((byt f.value ++ r).take f.value.size) = f.value := by
    rw [← byt_len, List.take_left, txt_byt]
  rw [e]
  simp [fput]
  omega
theorem fget_back {l : List UInt8} {f : Fld} {k : Nat} (h : fget l = some (f, k)) : l = fput f ++ l.drop k ∧ k = (fput f).length := by
  cases l with
  | nil => simp [fget] at h
  | cons a r =>
    rw [fget] at h
    split at h
    · cases h
    · rename_i hc
      simp only [Option.some.injEq, Prod.mk.injEq] at h
      obtain ⟨rfl, rfl⟩ := h
      obtain ⟨e1, e2⟩ := vget_back (l := r) (n := (vget r).1) (k := (vget r).2) rfl (by omega)
      have hlen : ((r.drop (vget r).2).take (vget r).1).length = (vget r).1 := by simp at hc ⊢; omega
      have hs : (txt ((r.drop (vget r).2).take (vget r).1)).size = (vget r).1 := by rw [txt_size, hlen]
      have hf : fput ⟨a, txt ((r.drop (vget r).2).take (vget r).1)⟩ = a :: (vput (vget r).1 ++ (r.drop (vget r).2).take (vget r).1) := by
        rw [fput, byt_txt]
        simp only [hs]
      rw [hf]
      refine ⟨?_, ?_⟩
      · rw [show 1 + (vget r).2 + (vget r).1 = ((vget r).2 + (vget r).1) + 1 by omega, List.drop_succ_cons, ← List.drop_drop]
        simp only [List.cons_append, List.append_assoc, List.take_append_drop]
        rw [← e1]
      · simp only [List.length_cons, List.length_append, hlen, ← e2]
        omega
theorem fput_ne (f : Fld) (r : List UInt8) : fput f ++ r ≠ [] := by simp [fput]
theorem fall_join : ∀ (l : List Fld), (∀ f ∈ l, f.value.size < 18446744073709551616) → fall (fjoin l) = some l
  | [], _ => fall_nil
  | f :: l, h => by
    have e : fjoin (f :: l) = fput f ++ fjoin l := by simp [fjoin]
    rw [e, fall_some (fput_ne f _) (fget_put f (h f (by simp)) _), List.drop_left, fall_join l (fun x hx => h x (by simp [hx]))]
    rfl
theorem fall_back : ∀ (k : Nat) (b : List UInt8) (l : List Fld), b.length ≤ k → fall b = some l → fjoin l = b
  | 0, b, l, hk, h => by
    obtain rfl : b = [] := List.eq_nil_of_length_eq_zero (by omega)
    rw [fall_nil] at h
    cases h
    rfl
  | k + 1, b, l, hk, h => by
    by_cases h0 : b = []
    · subst h0
      rw [fall_nil] at h
      cases h
      rfl
    · cases hg : fget b with
      | none => rw [fall_none h0 hg] at h; cases h
      | some fn =>
        obtain ⟨f, n⟩ := fn
        rw [fall_some h0 hg] at h
        obtain ⟨r, hr, rfl⟩ := Option.map_eq_some_iff.1 h
        obtain ⟨e1, e2⟩ := fget_back hg
        have hp := fget_pos hg
        have := fall_back k (b.drop n) r (by simp; omega) hr
        show fjoin (f :: r) = b
        rw [show fjoin (f :: r) = fput f ++ fjoin r by simp [fjoin], this]
        exact e1.symm
theorem take_cons (k : UInt8) (v : ByteArray) (r : List Fld) : ptake k (⟨k, v⟩ :: r) = some (v, r) := by simp [ptake]
theorem take_back {k : UInt8} {l r : List Fld} {v : ByteArray} (h : ptake k l = some (v, r)) : l = ⟨k, v⟩ :: r := by
  cases l with
  | nil => cases h
  | cons f q =>
    simp only [ptake] at h
    split at h
    · rename_i hf
      cases h
      cases f
      simp at hf
      subst hf
      rfl
    · cases h
theorem num_cons (k : UInt8) {n : Nat} (h : n < 18446744073709551616) (r : List Fld) : pnum k (⟨k, txt (vput n)⟩ :: r) = some (n, r) := by
  have hv := vget_put h []
  rw [List.append_nil] at hv
  have hp := vput_pos n
  rw [pnum, take_cons]
  simp only [Option.bind_some, byt_txt, hv, txt_size]
  rw [if_neg (by omega)]
theorem num_back {k : UInt8} {l r : List Fld} {n : Nat} (h : pnum k l = some (n, r)) : l = ⟨k, txt (vput n)⟩ :: r ∧ n < 18446744073709551616 := by
  unfold pnum at h
  obtain ⟨⟨v, q⟩, h1, h2⟩ := Option.bind_eq_some_iff.1 h
  simp only at h2
  split at h2
  · cases h2
  · rename_i hc
    simp only [Option.some.injEq, Prod.mk.injEq] at h2
    obtain ⟨rfl, rfl⟩ := h2
    have hb := take_back h1
    obtain ⟨e1, e2⟩ := vget_back (l := byt v) (n := (vget (byt v)).1) (k := (vget (byt v)).2) rfl (by omega)
    have hd : (byt v).drop (vget (byt v)).2 = [] := List.drop_eq_nil_of_le (by rw [byt_len]; omega)
    rw [hd, List.append_nil] at e1
    refine ⟨?_, vget_lt _⟩
    rw [← e1, txt_byt]
    exact hb
theorem third_cons {x : Cav} (h3 : x.third = true) (hc : canC x = true) (hp : x.party < 18446744073709551616) (r : List Fld) : pthird (cavFlds x ++ r) = some (x, r) := by
  have ht : x.text = ByteArray.empty := by
    unfold canC at hc
    rw [h3] at hc
    simp at hc
    exact hc.1.1
  have e : cavFlds x = [⟨4, txt (vput x.party)⟩, ⟨5, x.id⟩, ⟨6, x.vault⟩] := by rw [cavFlds, h3]; rfl
  rw [e]
  show pthird (⟨4, txt (vput x.party)⟩ :: ⟨5, x.id⟩ :: ⟨6, x.vault⟩ :: r) = _
  rw [pthird, num_cons 4 hp]
  simp only [Option.bind_some, take_cons, Option.map_some]
  cases x
  simp at h3 ht
  subst h3 ht
  rfl
/-- What follows caveats begins with another kind. -/
def NoCav (l : List Fld) : Prop := pis 3 (some l) = false ∧ pis 4 (some l) = false
theorem pcavs_join : ∀ (cs : List Cav) (r : List Fld), (∀ x ∈ cs, canC x = true ∧ x.party < 18446744073709551616) → NoCav r → pcavs (cs.flatMap cavFlds ++ r) = some (cs, r)
  | [], r, _, hr => pcavs_end hr.1 hr.2
  | x :: cs, r, h, hr => by
    have hx := h x (by simp)
    have ih := pcavs_join cs r (fun y hy => h y (by simp [hy])) hr
    rw [List.flatMap_cons, List.append_assoc]
    cases h3 : x.third with
    | true =>
      have e : cavFlds x = [⟨4, txt (vput x.party)⟩, ⟨5, x.id⟩, ⟨6, x.vault⟩] := by rw [cavFlds, h3]; rfl
      have ht := third_cons h3 hx.1 hx.2 (cs.flatMap cavFlds ++ r)
      rw [pcavs_third (by rw [e]; rfl) (by rw [e]; rfl) ht, ih]
      rfl
    | false =>
      have e : cavFlds x = [⟨3, x.text⟩] := by rw [cavFlds, h3]; rfl
      have hc := hx.1
      unfold canC at hc
      rw [h3] at hc
      simp [cav_mk] at hc
      rw [e]
      show pcavs (⟨3, x.text⟩ :: (cs.flatMap cavFlds ++ r)) = _
      rw [pcavs_text (x := x.text) (r := cs.flatMap cavFlds ++ r) rfl (take_cons 3 x.text _), ih]
      simp only [Option.map_some]
      congr 2
      congr 1
      exact (cav_mk.2 ⟨h3, rfl, hc.2.2.1, hc.2.2.2.1, hc.2.2.2.2⟩).symm
theorem third_back {l r : List Fld} {x : Cav} (h : pthird l = some (x, r)) : l = cavFlds x ++ r ∧ x.party < 18446744073709551616 := by
  unfold pthird at h
  obtain ⟨⟨p, l1⟩, ha, h⟩ := Option.bind_eq_some_iff.1 h
  obtain ⟨⟨i, l2⟩, hb, h⟩ := Option.bind_eq_some_iff.1 h
  obtain ⟨⟨v, l3⟩, hc, h⟩ := Option.map_eq_some_iff.1 h
  simp only [Prod.mk.injEq] at h
  obtain ⟨rfl, rfl⟩ := h
  simp only at hb hc
  obtain ⟨e1, e2⟩ := num_back ha
  have e3 := take_back hb
  have e4 := take_back hc
  refine ⟨?_, e2⟩
  rw [e1, e3, e4]
  rfl
theorem pcavs_back : ∀ (k : Nat) (l r : List Fld) (cs : List Cav), l.length ≤ k → pcavs l = some (cs, r) → l = cs.flatMap cavFlds ++ r ∧ (∀ x ∈ cs, x.party < 18446744073709551616) := by
  intro k
  induction k with
  | zero =>
    intro l r cs hk h
    obtain rfl : l = [] := List.eq_nil_of_length_eq_zero (by omega)
    rw [pcavs_end (by rfl) (by rfl)] at h
    cases h
    exact ⟨rfl, by simp⟩
  | succ k ih =>
    intro l r cs hk h
    cases h3 : pis 3 (some l) with
    | true =>
      obtain ⟨v, q, ht⟩ := pis_take h3
      rw [pcavs_text h3 ht] at h
      obtain ⟨⟨cs', r'⟩, h1, h2⟩ := Option.map_eq_some_iff.1 h
      simp only [Prod.mk.injEq] at h2
      obtain ⟨rfl, rfl⟩ := h2
      have := ptake_len ht
      obtain ⟨e1, e2⟩ := ih q r' cs' (by omega) h1
      refine ⟨?_, ?_⟩
      · rw [take_back ht, e1]; rfl
      · intro x hx
        simp at hx
        rcases hx with rfl | hx
        · show (0 : Nat) < _; decide
        · exact e2 x hx
    | false =>
      cases h4 : pis 4 (some l) with
      | false =>
        rw [pcavs_end h3 h4] at h
        cases h
        exact ⟨rfl, by simp⟩
      | true =>
        cases ht : pthird l with
        | none => rw [pcavs_bad h3 h4 ht] at h; cases h
        | some xr =>
          obtain ⟨x, q⟩ := xr
          rw [pcavs_third h3 h4 ht] at h
          obtain ⟨⟨cs', r'⟩, h1, h2⟩ := Option.map_eq_some_iff.1 h
          simp only [Prod.mk.injEq] at h2
          obtain ⟨rfl, rfl⟩ := h2
          have := pthird_len ht
          obtain ⟨e1, e2⟩ := ih q r' cs' (by omega) h1
          obtain ⟨e3, e4⟩ := third_back ht
          refine ⟨?_, ?_⟩
          · rw [e3, e1]; simp
          · intro y hy
            simp at hy
            rcases hy with rfl | hy
            · exact e4
            · exact e2 y hy
theorem tagOf_self (t : Tg) : tagOf (byt (txt t.l)) = some t := by
  rw [byt_txt, tagOf, dif_pos t.len]
theorem tagOf_back {b : List UInt8} {t : Tg} (h : tagOf b = some t) : b = t.l := by
  unfold tagOf at h
  split at h
  · cases h; rfl
  · cases h
theorem flag_dec (b : Bool) : decide (flagB b = b1) = b := by cases b <;> decide
/-- Numbers as they may be in memory. -/
def Tok.ok (t : Tok) : Prop := t.key < 18446744073709551616 ∧ ∀ x ∈ t.cavs, x.party < 18446744073709551616
/-- A token that can be comes back from its bytes. -/
theorem pdec_enc {t : Tok} (h : checkT t = true) (hk : t.ok) : pdec (enc t) = some t := by
  have hc : t.id.size ≤ 1024 ∧ t.cavs.length ≤ 64 ∧ t.cavs.all canC = true := by
    simp only [checkT, Bool.and_eq_true, decide_eq_true_eq] at h
    exact ⟨h.1.1, h.1.2, h.2⟩
  have hsz : ∀ f ∈ encFlds t, f.value.size < 18446744073709551616 := by
    intro f hf
    unfold encFlds at hf
    simp only [List.mem_append, List.mem_flatMap, List.mem_cons, List.not_mem_nil, or_false] at hf
    rcases hf with ((rfl | rfl) | ⟨x, hx, hf⟩) | (rfl | rfl)
    · simp only [txt_size]; have := vput_len10 hk.1; omega
    · simp only; omega
    · have hx' := can_small (List.all_eq_true.1 hc.2.2 x hx)
      have hp := vput_len10 (hk.2 x hx)
      unfold cavFlds at hf
      split at hf
      · simp only [List.mem_cons, List.not_mem_nil, or_false] at hf
        rcases hf with rfl | rfl | rfl
        · simp only [txt_size]; omega
        · simp only; omega
        · simp only; omega
      · simp only [List.mem_cons, List.not_mem_nil, or_false] at hf
        subst hf
        simp only
        omega
    · cases t.bnd <;> decide
    · simp only [txt_size, t.tag.len]; decide
  rw [enc, pdec, fall_join _ hsz]
  simp only [Option.bind_some, encFlds, List.cons_append, List.nil_append, num_cons 1 hk.1, take_cons]
  rw [pcavs_join t.cavs _ (fun x hx => ⟨List.all_eq_true.1 hc.2.2 x hx, hk.2 x hx⟩) ⟨rfl, rfl⟩]
  simp only [Option.bind_some, take_cons, tagOf_self, flag_dec]
  rw [if_pos ⟨trivial, by cases t.bnd <;> decide, h⟩]
/-- Bytes that are read are written as they were. -/
theorem pdec_back {b : List UInt8} {t : Tok} (h : pdec b = some t) : enc t = b ∧ checkT t = true ∧ t.ok := by
  unfold pdec at h
  obtain ⟨l0, e0, h⟩ := Option.bind_eq_some_iff.1 h
  obtain ⟨⟨k, l1⟩, e1, h⟩ := Option.bind_eq_some_iff.1 h
  obtain ⟨⟨i, l2⟩, e2, h⟩ := Option.bind_eq_some_iff.1 h
  obtain ⟨⟨cs, l3⟩, e3, h⟩ := Option.bind_eq_some_iff.1 h
  obtain ⟨⟨f, l4⟩, e4, h⟩ := Option.bind_eq_some_iff.1 h
  obtain ⟨⟨m, l5⟩, e5, h⟩ := Option.bind_eq_some_iff.1 h
  obtain ⟨tg, e6, h⟩ := Option.bind_eq_some_iff.1 h
  simp only at h
  split at h
  · rename_i hc
    cases h
    obtain ⟨rfl, hf, hck⟩ := hc
    simp only at e2 e3 e4 e5 e6
    obtain ⟨n1, n2⟩ := num_back e1
    have n3 := take_back e2
    obtain ⟨n4, n5⟩ := pcavs_back _ _ _ _ (Nat.le_refl _) e3
    have n6 := take_back e4
    have n7 := take_back e5
    have n8 := tagOf_back e6
    refine ⟨?_, hck, n2, n5⟩
    rw [enc, ← fall_back _ b l0 (Nat.le_refl _) e0]
    congr 1
    have hfl : flagB (decide (f = b1)) = f := by
      rcases hf with rfl | rfl <;> rfl
    have hm : txt tg.l = m := by rw [← n8, txt_byt]
    rw [encFlds]
    simp only [hfl, hm]
    rw [n1, n3, n4, n6, n7]
    simp
  · cases h
end Go.Proofs.YtdkeflhgengblaaDoor
namespace Go.Proofs.YtdkeflhgengblaaDoor
open Go.RowKit
attribute [local go_sem ↓] ld16 ld17 ld32 ld36
attribute [local go_sem] run_ldAgg run_storeAgg agg_alloc_at agg_alloc_past agg_drew agg_setCell row_alloc_at row_alloc_past row_drew setRow_alloc_at setRow_alloc_past setRow_drew agg_setRow_at agg_setRow_far cell_setRow_at cell_setRow_far row_setRow_far size_setRow tgC_size tgC_one tgC_part tgC_splice tokC_size tokC_0 tokC_1 tokC_2 tokC_3 tokC_g0 tokC_g1 tokC_g2 tokC_g3 tokC_part tokC_tag tokC_set0 tokC_set1 tokC_set2 tokC_set3 tokC_splice tokC_splice0 tgC_splice_any zero_tg zero_tok tokC_all tokC_ne tgC_ne

theorem enc_zero : (enc Tok.zero).length = 42 := by
  have h0 : vput 0 = [0] := by rw [vput_lt (by decide)]; rfl
  have h1 : vput 1 = [1] := by rw [vput_lt (by decide)]; rfl
  have h32 : vput 32 = [32] := by rw [vput_lt (by decide)]; rfl
  simp [enc, encFlds, Tok.zero, fjoin, fput, h0, h1, h32, flagB, b0, Tg.zero, ByteArray.size]
/-- A token in block g. -/
def TokIn (w : World) (g : Nat) (t : Tok) (A : Option Addr) (n c : Nat) : Prop := w.heap[g]? = some (.cells (tokC (.int .u64 (t.key : Int)) (.string t.id) (.slice A n c) (.bool t.bnd) t.tag) 44)
theorem TokIn.agg {w : World} {g : Nat} {t : Tok} {A : Option Addr} {n c : Nat} (h : TokIn w g t A n c) : agg? w ⟨g, 0, none⟩ 36 = some (tokC (.int .u64 (t.key : Int)) (.string t.id) (.slice A n c) (.bool t.bnd) t.tag) := by
  rw [agg_of_row h 0 36 (by decide)]
  exact tokC_part _ _ _ _ _
theorem TokIn.lt {w : World} {g : Nat} {t : Tok} {A : Option Addr} {n c : Nat} (h : TokIn w g t A n c) : g < w.heap.size := (Array.getElem?_eq_some_iff.1 h).1
theorem TokIn.below {w w' : World} {g : Nat} {t : Tok} {A : Option Addr} {n c : Nat} (h : TokIn w g t A n c) (hb : Below w.heap.size w w') : TokIn w' g t A n c := (hb.block g (Array.getElem?_eq_some_iff.1 h).1).trans h
theorem great_one (b : Bool) : ((if b = true then (1 : Int) else 0) == 1) = b := by cases b <;> rfl

theorem enc_len {t : Tok} (h : checkT t = true) (hk : t.ok) : (enc t).length ≤ 1099511627776 := by
  have hc : t.id.size ≤ 1024 ∧ t.cavs.length ≤ 64 ∧ t.cavs.all canC = true := by
    simp only [checkT, Bool.and_eq_true, decide_eq_true_eq] at h
    exact ⟨h.1.1, h.1.2, h.2⟩
  have hcs : ∀ l : List Cav, (∀ x ∈ l, canC x = true ∧ x.party < 18446744073709551616) → (fjoin (l.flatMap cavFlds)).length ≤ 5000 * l.length := by
    intro l
    induction l with
    | nil => intro _; simp [fjoin]
    | cons x l ih =>
      intro hl
      have h1 := hl x (by simp)
      have h2 := ih (fun y hy => hl y (by simp [hy]))
      have h3 := cav_len h1.1 h1.2
      rw [List.flatMap_cons, fjoin_app, List.length_append, List.length_cons]
      omega
  have h1 := hcs t.cavs (fun x hx => ⟨List.all_eq_true.1 hc.2.2 x hx, hk.2 x hx⟩)
  have e1 := fput_len ⟨1, txt (vput t.key)⟩ (by have := vput_len10 hk.1; simp only [txt_size]; omega)
  have e2 := fput_len ⟨2, t.id⟩ (by simp only; omega)
  have e3 := fput_len ⟨7, flagB t.bnd⟩ (by cases t.bnd <;> decide)
  have e4 := fput_len ⟨8, txt t.tag.l⟩ (by simp only [txt_size, t.tag.len]; decide)
  have hv := vput_len10 hk.1
  have hf : (flagB t.bnd).size = 1 := by cases t.bnd <;> rfl
  simp only [txt_size, t.tag.len, hf] at e1 e2 e3 e4
  rw [enc, encFlds, fjoin_app, fjoin_app, List.length_append, List.length_append]
  simp only [fjoin, List.flatMap_cons, List.flatMap_nil, List.length_append, List.length_nil] at *
  omega
end Go.Proofs.YtdkeflhgengblaaDoor
namespace Go.Proofs.YtdkeflhgengblaaDoor
open Go.RowKit
attribute [local go_sem ↓] ld16 ld17 ld32 ld36 ld37
attribute [local go_sem] run_ldAgg run_storeAgg agg_alloc_at agg_alloc_past agg_drew agg_setCell row_alloc_at row_alloc_past row_drew setRow_alloc_at setRow_alloc_past setRow_drew agg_setRow_at agg_setRow_far cell_setRow_at cell_setRow_far row_setRow_far size_setRow tgC_size tgC_one tgC_part tgC_splice tokC_size tokC_0 tokC_1 tokC_2 tokC_3 tokC_g0 tokC_g1 tokC_g2 tokC_g3 tokC_part tokC_tag tokC_set0 tokC_set1 tokC_set2 tokC_set3 tokC_splice tokC_splice0 tgC_splice_any zero_tg zero_tok tokC_all tokC_ne tgC_ne
attribute [local go_sem] bunC_size bunC_0 bunC_1 bunC_2 bunC_3 bunC_36 bunC_g3 bunC_g36 bunC_part bunC_root bunC_set36 bunC_splice bunC_splice0 zero_bun bunC_all bunC_ne

def bencFlds (b : Bun) : List Fld := ⟨16, txt (enc b.root)⟩ :: b.dis.map fun d => ⟨17, txt (enc d)⟩
/-- A bundle's bytes, of one that can be. -/
def benc (b : Bun) : List UInt8 := fjoin (bencFlds b)
def bcode (b : Bun) : Nat := if checkB b then (if 65536 < (benc b).length then 3 else 0) else 1
def Bun.ok (b : Bun) : Prop := b.root.ok ∧ ∀ d ∈ b.dis, d.ok
def BEncoded (w : World) (b : Bun) (e : Ending) (w' : World) : Prop :=
  ∃ v, e = .returned (.tuple #[v, .int .i64 (bcode b : Int)]) ∧ kU8.Own (fun _ => True) w.heap.size w' 5 v (if bcode b = 0 then benc b else []) ∧ Below w.heap.size w w'

theorem enc_small {t : Tok} (h : checkT t = true) (hk : t.ok) : (enc t).length ≤ 400000 := by
  have hc : t.id.size ≤ 1024 ∧ t.cavs.length ≤ 64 ∧ t.cavs.all canC = true := by
    simp only [checkT, Bool.and_eq_true, decide_eq_true_eq] at h
    exact ⟨h.1.1, h.1.2, h.2⟩
  have hcs : ∀ l : List Cav, (∀ x ∈ l, canC x = true ∧ x.party < 18446744073709551616) → (fjoin (l.flatMap cavFlds)).length ≤ 5000 * l.length := by
    intro l
    induction l with
    | nil => intro _; simp [fjoin]
    | cons x l ih =>
      intro hl
      have h1 := hl x (by simp)
      have h2 := ih (fun y hy => hl y (by simp [hy]))
      have h3 := cav_len h1.1 h1.2
      rw [List.flatMap_cons, fjoin_app, List.length_append, List.length_cons]
      omega
  have h1 := hcs t.cavs (fun x hx => ⟨List.all_eq_true.1 hc.2.2 x hx, hk.2 x hx⟩)
  have e1 := fput_len ⟨1, txt (vput t.key)⟩ (by have := vput_len10 hk.1; simp only [txt_size]; omega)
  have e2 := fput_len ⟨2, t.id⟩ (by simp only; omega)
  have e3 := fput_len ⟨7, flagB t.bnd⟩ (by cases t.bnd <;> decide)
  have e4 := fput_len ⟨8, txt t.tag.l⟩ (by simp only [txt_size, t.tag.len]; decide)
  have hv := vput_len10 hk.1
  have hf : (flagB t.bnd).size = 1 := by cases t.bnd <;> rfl
  simp only [txt_size, t.tag.len, hf] at e1 e2 e3 e4
  rw [enc, encFlds, fjoin_app, fjoin_app, List.length_append, List.length_append]
  simp only [fjoin, List.flatMap_cons, List.flatMap_nil, List.length_append, List.length_nil] at *
  omega
theorem cavs_party {ok : Nat → Prop} {w : World} {A : Option Addr} {n c : Nat} {xs : List Cav} (h : kCav.Row ok w A n c xs) : ∀ x ∈ xs, x.party < 18446744073709551616 := by
  intro x hx
  obtain ⟨i, hi, rfl⟩ := List.mem_iff_getElem.1 hx
  obtain ⟨b, o, _, _, _, hc⟩ := h.2.2.2 (by have := h.1; omega)
  obtain ⟨cs, hk, _⟩ := hc i _ (List.getElem?_eq_getElem hi)
  exact hk.2.2.1
theorem fput_lenT {k : UInt8} {t : Tok} (h : checkT t = true) (hk : t.ok) : (fput ⟨k, txt (enc t)⟩).length ≤ 400011 := by
  have h1 := enc_small h hk
  have h2 := fput_len ⟨k, txt (enc t)⟩ (by simp only [txt_size]; omega)
  simp only [txt_size] at h2
  omega

theorem bv17 : bv 17 = .int .u8 17 := rfl
theorem c_fput17 (A : Option Addr) (n c : Nat) (xs : List UInt8) (s : ByteArray) (ok : Nat → Prop) (w : World) (hR : kU8.Row ok w A n c xs) (hn : n ≤ 1099511627776) (hs : s.size ≤ 1099511627776) :
    Calls Tryd.prog 114 #[.slice A n c, .agg #[.int .u8 17, .string s]] w fun e w' => ∃ v, e = .returned v ∧ kU8.Own (fun _ => True) w.heap.size w' 5 v (xs ++ fput ⟨17, s⟩) ∧ Below w.heap.size w w' := by
  have h := c_fput A n c xs 17 s ok w hR hn hs
  rw [bv17] at h
  exact h
set_option maxRecDepth 100000 in
set_option maxHeartbeats 600000 in
theorem c_bencode (x : Bun) (A B : Option Addr) (n c m d : Nat) (ok ok' : Nat → Prop) (w : World) (hR : kCav.Row ok w A n c x.root.cavs) (hS : kTok.Row ok' w B m d x.dis) (hk : x.root.key < 18446744073709551616) :
    Calls Tryd.prog 96 #[bunV x A n c B m d] w (BEncoded w x) := by
  have HL := hide hS.1
  have hm : m ≤ 9223372036854775807 := Nat.le_trans hS.2.1 hS.2.2.1
  have HTK := hide (show x.root.ok from ⟨hk, cavs_party hR⟩)
  have HR := hide hR
  have HS := hide hS
  clear hR hS hk
  cases hck : checkB x with
  | false =>
    have HC : Hid (bcode x = 1) := hide (by simp [bcode, hck])
    go_enter Tryd.func96, Tryd.ntmps96
    go_wp2_with fail
    refine (c_bcheck x A B n c m d ok ok' _ (HR.out.below (below1 _ _)) (HS.out.below (below1 _ _))).mono ?_
    rintro e w1 ⟨rfl, b1⟩
    have HB := hide (bnext (below1 _ _) b1)
    clear b1
    rw [hck]
    simp only [errV]
    go_wp2_with fail
    exact bodyPost_ret (v := .tuple #[.slice none 0 0, .int .i64 1]) (by simp [results, Tryd.results96, go_sem]) rfl ⟨_, by rw [HC.out]; rfl, by rw [HC.out]; exact .nil _ _ _ _ _, HB.out⟩
  | true =>
    have hkk : checkT x.root = true ∧ x.dis.length ≤ 16 ∧ x.dis.all checkD = true := by
      simp only [checkB, Bool.and_eq_true, decide_eq_true_eq] at hck
      exact ⟨hck.1.2, hck.1.1.2, hck.2⟩
    have HKK := hide hkk
    have HC : Hid (bcode x = if 65536 < (benc x).length then 3 else 0) := hide (by simp [bcode, hck])
    have hm16 : m ≤ 16 := by rw [← HL.out]; exact hkk.2.1
    clear hkk
    go_enter Tryd.func96, Tryd.ntmps96
    go_wp2_with fail
    refine (c_bcheck x A B n c m d ok ok' _ (HR.out.below (below1 _ _)) (HS.out.below (below1 _ _))).mono ?_
    rintro e w1 ⟨rfl, b1⟩
    have HB1 := hide (bnext (below1 _ _) b1)
    have hg1 : w1.heap[w.heap.size]? = some (.cells (bunA x A n c B m d) 61) := (b1.block _ (by simp)).trans (heap_alloc_new _ _)
    have hag : agg? w1 ⟨w.heap.size, 0, none⟩ 36 = some (tokA x.root A n c) := by
      rw [agg_of_row hg1 0 36 (by decide)]
      exact bunC_root _ _ _ _ _ _
    have HG1 := hide hg1
    clear b1 hg1
    rw [hck]
    clear hck
    simp only [errV]
    go_wp2_with fail
    refine (c_encode x.root A n c ok w1 (HR.out.below HB1.out) HTK.out.1).mono ?_
    rintro e w2 ⟨v2, rfl, ho2, b2⟩
    rw [HKK.out.1, if_pos rfl] at ho2
    rw [HKK.out.1]
    obtain ⟨A2, c2, rfl, hr2⟩ := ho2.row
    have hs2 := row_string (P := Tryd.prog) Tryd.underlying22 Tryd.underlying5 Tryd.underlying9 hr2
    have HB2 := hide (bnext HB1.out b2)
    have HG2 := hide ((b2.block _ (Array.getElem?_eq_some_iff.1 HG1.out).1).trans HG1.out)
    have HLE := hide (enc_small HKK.out.1 HTK.out)
    clear ho2 hr2 b2 hag
    simp only [errV]
    go_wp2_with fail
    refine (c_fjoin (some ⟨w2.heap.size, 0, none⟩) 1 1 [⟨16, txt (enc x.root)⟩] (fun _ => True) _ ((flds_els (fun f hf => ?_)).rowAt (heap_alloc_new _ _) rfl trivial (by simp [maxLen])) ?_ ?_).mono ?_
    · simp only [List.mem_singleton] at hf; subst hf; have := HLE.out; simp only [txt_size, maxLen]; omega
    · have := fput_lenT (k := 16) HKK.out.1 HTK.out; simp [fjoin]; omega
    · intro f hf; simp only [List.mem_singleton] at hf; subst hf; have := HLE.out; simp only [txt_size]; omega
    rintro e w3 ⟨v3, rfl, ho3, b3⟩
    have b3' := bnext (below1 w2 _) b3
    have HB3 := hide (bnext HB2.out b3')
    have hg3 := (b3'.block _ (Array.getElem?_eq_some_iff.1 HG2.out).1).trans HG2.out
    have hy : w3.cell? ⟨w.heap.size, 36, none⟩ = some (.slice B m d) := (cell_of_row w3 _ _ _ _ _ hg3).trans (bunC_36 _ _ _ _ _ _)
    have HO3 := hide (ho3.lower (base' := w.heap.size) (by have := HB2.out.size; simp; omega))
    have HL3 := hide (show (fjoin [(⟨16, txt (enc x.root)⟩ : Fld)]).length ≤ 400011 by have := fput_lenT (k := 16) HKK.out.1 HTK.out; simp [fjoin]; omega)
    clear ho3 b3 b3' hg3 hs2
    go_wp2_with fail
    go_loopw [31, 7] (fun i p wr => ∃ (k : Nat) (lp : List UInt8), k ≤ m ∧ i = .int .i64 (k : Int) ∧ Hid (lp = fjoin (⟨16, txt (enc x.root)⟩ :: (x.dis.take k).map fun d => ⟨17, txt (enc d)⟩)) ∧ Hid (kU8.Own (fun _ => True) w.heap.size wr 5 p lp) ∧ Hid (lp.length ≤ 400011 + 400011 * k) ∧ Hid (Below w.heap.size w wr)) (fun i _ _ => m - (intOf i).toNat)
    case atStart => exact ⟨0, _, Nat.zero_le _, rfl, hide rfl, hide (by simpa using HO3.out), hide (by simpa using HL3.out), HB3⟩
    case round =>
      obtain ⟨k, lp, hk, rfl, HLP, HO, HLN, HB⟩ := hrel
      by_cases hlt : k < m
      · obtain ⟨y, hx⟩ : ∃ y, x.dis[k]? = some y := ⟨_, List.getElem?_eq_getElem (by have := HL.out; omega)⟩
        obtain ⟨b, q, A1, n1, c1, hix, hbl, hag, hr1, hk1⟩ := tok_at (HS.out.below HB.out) hx
        have HTY : Hid (x.dis.take (k + 1) = x.dis.take k ++ [y]) := hide (by rw [List.take_add_one, hx]; rfl)
        have HOY := hide (show y.ok from ⟨hk1, cavs_party hr1⟩)
        have HR1 := hide hr1
        have hcy : checkT y = true := by
          have := List.all_eq_true.1 HKK.out.2.2 y (List.mem_of_getElem? hx)
          simp only [checkD, Bool.and_eq_true] at this
          exact this.2
        have HCY := hide hcy
        have hsb := HB.out.size
        clear hx hr1 hcy
        go_wp2_with fail
        refine (c_encode y A1 n1 c1 _ _ (HR1.out.below (below1 _ _)) HOY.out.1).mono ?_
        rintro e w4 ⟨v4, rfl, ho4, b4⟩
        rw [HCY.out, if_pos rfl] at ho4
        rw [HCY.out]
        obtain ⟨A4, c4, rfl, hr4⟩ := ho4.row
        have hs4 := row_string (P := Tryd.prog) Tryd.underlying22 Tryd.underlying5 Tryd.underlying9 hr4
        have b4' := bnext (below1 wr _) b4
        have HB4 := hide (HB.out.trans (b4'.mono hsb))
        have hsb4 := HB4.out.size
        obtain ⟨A5, c5, rfl, hr5⟩ := (HO.out.below b4').row
        have HR5 := hide hr5
        have HLY := hide (enc_small HCY.out HOY.out)
        clear ho4 hr4 b4 b4' hr5
        simp only [errV]
        go_wp2_with fail
        refine (c_fput17 A5 _ c5 _ (txt (enc y)) _ _ HR5.out (by have := HLN.out; omega) (by have := HLY.out; simp only [txt_size]; omega)).mono ?_
        rintro e w5 ⟨v5, rfl, ho5, b5⟩
        have HB5 := hide (HB4.out.trans (b5.mono hsb4))
        have HO5 := hide (ho5.lower (base' := w.heap.size) hsb4)
        clear ho5 b5
        have HEQ : Hid (lp ++ fput ⟨17, txt (enc y)⟩ = fjoin (⟨16, txt (enc x.root)⟩ :: (x.dis.take (k + 1)).map fun d => ⟨17, txt (enc d)⟩)) := hide (by
          rw [HLP.out, HTY.out, List.map_append, ← List.cons_append, fjoin_app]
          simp [fjoin])
        go_wp2_with fail
        go_roundw
        case rel =>
          refine ⟨k + 1, _, by omega, by simp, HEQ, HO5, hide ?_, HB5⟩
          · rw [List.length_append]
            have := HLN.out; have := fput_lenT (k := 17) HCY.out HOY.out; omega
        case measure => simp [intOf]; omega
      · obtain rfl : k = m := by omega
        have hlp : lp = benc x := by rw [HLP.out, List.take_of_length_le (Nat.le_of_eq HL.out)]; rfl
        subst hlp
        obtain ⟨A5, c5, rfl⟩ := HO.out.form
        obtain ⟨L, hL⟩ : ∃ L, L = (benc x).length := ⟨_, rfl⟩
        have hlb := HLN.out
        rw [← hL] at hlb HC HO ⊢
        have HLL := hide hL
        clear hL HLP HLN
        by_cases h6 : 65536 < L
        · have HC := hide (HC.out.trans (if_pos h6))
          go_wp2_with fail
          have hfin : BEncoded w x (.returned (.tuple #[.slice none 0 0, .int .i64 3])) wr := ⟨_, by rw [HC.out]; rfl, by rw [HC.out]; exact .nil _ _ _ _ _, HB.out⟩
          exact bodyPost_ret (v := .tuple #[.slice none 0 0, .int .i64 3]) (by simp [results, Tryd.results96, go_sem]) rfl ⟨_, by rw [HC.out]; rfl, by rw [HC.out]; exact .nil _ _ _ _ _, HB.out⟩
        · have HC := hide (HC.out.trans (if_neg h6))
          go_wp2_with fail
          exact bodyPost_ret (v := .tuple #[.slice A5 L c5, .int .i64 0]) (by simp [results, Tryd.results96, go_sem]) rfl ⟨_, by rw [HC.out]; rfl, by rw [HC.out, if_pos rfl]; exact HO.out, HB.out⟩
end Go.Proofs.YtdkeflhgengblaaDoor
namespace Go.Proofs.YtdkeflhgengblaaDoor

def bdis : List Fld → Option (List Tok)
  | [] => some []
  | f :: r => if f.kind = 17 then (pdec (byt f.value)).bind fun t => (bdis r).map (t :: ·) else none
def bparse : List Fld → Option Bun
  | [] => some Bun.zero
  | f :: r => if f.kind = 16 then (pdec (byt f.value)).bind fun t => (bdis r).map fun ds => ⟨t, ds⟩ else none
/-- The bundle that bytes are read to. -/
def bdec (b : List UInt8) : Option Bun := (fall b).bind fun l => if l = [] then none else (bparse l).bind fun x => if checkB x then some x else none

theorem bdis_app : ∀ (a b : List Fld), bdis (a ++ b) = (bdis a).bind fun x => (bdis b).map (x ++ ·)
  | [], b => by simp [bdis]
  | f :: r, b => by
    rw [List.cons_append, bdis, bdis, bdis_app r b]
    split
    · cases pdec (byt f.value) with
      | none => rfl
      | some t =>
        cases bdis r with
        | none => rfl
        | some x => cases bdis b <;> simp
    · rfl
theorem bparse_snoc {l : List Fld} (f : Fld) (hl : l ≠ []) : bparse (l ++ [f]) = (bparse l).bind fun b => if f.kind = 17 then (pdec (byt f.value)).map fun t => ⟨b.root, b.dis ++ [t]⟩ else none := by
  cases l with
  | nil => exact absurd rfl hl
  | cons g r =>
    rw [List.cons_append, bparse, bparse, bdis_app]
    by_cases h : g.kind = 16
    · rw [if_pos h, if_pos h]
      cases pdec (byt g.value) with
      | none => rfl
      | some t =>
        cases bdis r with
        | none => rfl
        | some x =>
          simp only [Option.bind_some, bdis, Option.map_some]
          split
          · cases pdec (byt f.value) <;> simp
          · rfl
    · rw [if_neg h, if_neg h]; rfl
theorem bparse_one (f : Fld) : bparse [f] = if f.kind = 16 then (pdec (byt f.value)).map fun t => ⟨t, []⟩ else none := by
  rw [bparse]
  split
  · cases pdec (byt f.value) <;> rfl
  · rfl
theorem bparse_none {l : List Fld} {k : Nat} (h : bparse (l.take k) = none) : bparse l = none := by
  have e := List.take_append_drop k l
  cases hl : l.take k with
  | nil => rw [hl] at h; cases h
  | cons g r =>
    rw [hl] at h e
    rw [← e, List.cons_append, bparse, bdis_app]
    rw [bparse] at h
    split
    · rename_i h16
      rw [if_pos h16] at h
      cases hp : pdec (byt g.value) with
      | none => rfl
      | some t =>
        rw [hp] at h
        cases hd : bdis r with
        | none => rfl
        | some x => rw [hd] at h; cases h
    · rfl
theorem bdis_enc : ∀ (ds : List Tok), (∀ d ∈ ds, checkT d = true ∧ d.ok) → bdis (ds.map fun d => ⟨17, txt (enc d)⟩) = some ds
  | [], _ => rfl
  | d :: r, h => by
    have h1 := h d (by simp)
    rw [List.map_cons, bdis, if_pos rfl, byt_txt, pdec_enc h1.1 h1.2, Option.bind_some, bdis_enc r (fun x hx => h x (by simp [hx]))]
    rfl
theorem check_parts {b : Bun} (h : checkB b = true) : b.root.bnd = false ∧ checkT b.root = true ∧ b.dis.length ≤ 16 ∧ ∀ d ∈ b.dis, d.key = 0 ∧ checkT d = true := by
  simp only [checkB, Bool.and_eq_true, decide_eq_true_eq, Bool.not_eq_true'] at h
  refine ⟨h.1.1.1, h.1.2, h.1.1.2, fun d hd => ?_⟩
  have := List.all_eq_true.1 h.2 d hd
  simpa [checkD] using this
theorem benc_vals {b : Bun} (h : checkB b = true) (hk : b.ok) : ∀ f ∈ bencFlds b, f.value.size ≤ 400000 := by
  obtain ⟨-, h1, -, h2⟩ := check_parts h
  intro f hf
  simp only [bencFlds, List.mem_cons, List.mem_map] at hf
  rcases hf with rfl | ⟨d, hd, rfl⟩
  · simpa [txt_size] using enc_small h1 hk.1
  · simpa [txt_size] using enc_small (h2 d hd).2 (hk.2 d hd)
theorem bdec_enc {b : Bun} (h : checkB b = true) (hk : b.ok) : bdec (benc b) = some b := by
  obtain ⟨-, h1, -, h2⟩ := check_parts h
  rw [bdec, benc, fall_join _ (fun f hf => by have := benc_vals h hk f hf; omega), Option.bind_some, if_neg (by simp [bencFlds])]
  rw [bencFlds, bparse, if_pos rfl, byt_txt, pdec_enc h1 hk.1, Option.bind_some, bdis_enc _ (fun d hd => ⟨(h2 d hd).2, hk.2 d hd⟩)]
  simp [h]
theorem bdis_back : ∀ (l : List Fld) (ds : List Tok), bdis l = some ds → l = ds.map (fun d => ⟨17, txt (enc d)⟩) ∧ ∀ d ∈ ds, d.ok
  | [], ds, h => by
    rw [bdis] at h
    cases h
    simp
  | f :: r, ds, h => by
    rw [bdis] at h
    split at h
    · rename_i h17
      obtain ⟨t, ht, h⟩ := Option.bind_eq_some_iff.1 h
      obtain ⟨q, hq, rfl⟩ := Option.map_eq_some_iff.1 h
      obtain ⟨e1, e2⟩ := bdis_back r q hq
      obtain ⟨p1, p2, p3⟩ := pdec_back ht
      refine ⟨?_, fun d hd => ?_⟩
      · rw [List.map_cons, ← e1, p1, txt_byt, ← h17]
      · simp only [List.mem_cons] at hd
        rcases hd with rfl | hd
        · exact p3
        · exact e2 d hd
    · cases h
theorem bdec_back {b : List UInt8} {x : Bun} (h : bdec b = some x) : benc x = b ∧ checkB x = true ∧ x.ok := by
  obtain ⟨l, hl, h⟩ := Option.bind_eq_some_iff.1 h
  by_cases hne : l = []
  · rw [if_pos hne] at h
    cases h
  rw [if_neg hne] at h
  obtain ⟨y, hy, h⟩ := Option.bind_eq_some_iff.1 h
  split at h
  · rename_i hc
    cases h
    cases l with
    | nil => exact absurd rfl hne
    | cons f r =>
      rw [bparse] at hy
      split at hy
      · rename_i h16
        obtain ⟨t, ht, h⟩ := Option.bind_eq_some_iff.1 hy
        obtain ⟨q, hq, rfl⟩ := Option.map_eq_some_iff.1 h
        obtain ⟨e1, e2⟩ := bdis_back r q hq
        obtain ⟨p1, p2, p3⟩ := pdec_back ht
        refine ⟨?_, hc, p3, e2⟩
        rw [benc, bencFlds, ← e1, p1, txt_byt, ← h16]
        exact fall_back b.length b _ (Nat.le_refl _) hl
      · cases hy
  · cases h
theorem flds_size : ∀ (l : List Fld) (f : Fld), f ∈ l → f.value.size ≤ (fjoin l).length
  | [], f, h => by simp at h
  | g :: r, f, h => by
    have e : fjoin (g :: r) = fput g ++ fjoin r := by simp [fjoin]
    rw [e, List.length_append]
    simp only [List.mem_cons] at h
    rcases h with rfl | h
    · simp [fput]; omega
    · have := flds_size r f h; omega
theorem fall_size {b : List UInt8} {l : List Fld} (h : fall b = some l) : ∀ f ∈ l, f.value.size ≤ b.length := by
  intro f hf
  have := flds_size l f hf
  rwa [fall_back b.length b l (Nat.le_refl _) h] at this
/-- What bundle.Decode answers. -/
def bcodeD (b : List UInt8) : Nat := if 65536 < b.length then 3 else if (bdec b).isSome then 0 else 2
def bvalD (b : List UInt8) : Option Bun := if 65536 < b.length then none else bdec b
end Go.Proofs.YtdkeflhgengblaaDoor
namespace Go.Proofs.YtdkeflhgengblaaDoor
open Go.RowKit
theorem own_block_lt {α : Type} {d : Kd α} {ok : Nat → Prop} {base : Nat} {w : World} {E : TypeId} {v : Value} {xs : List α} (h : d.Own ok base w E v xs) : ∀ k, v.ownBlock = some k → k < w.heap.size := fun k hk => (h.base_le k hk).2
section
variable {α : Type} {d : Kd α} {base g : Nat} {w w' : World} {E : TypeId} {v : Value} {xs : List α} {A : Option Addr} {n c : Nat} {p : Nat → Prop}
theorem own_setRow (h : d.Own (g < ·) base w E v xs) (hg : g < base) (q : Nat) (hq : q ≤ g) (C : Array Value) : d.Own (g < ·) base (w.setRow q C) E v xs :=
  h.keep fun k _ hk => heap_setRow_far _ _ _ (by
    rcases hk with hk | hk
    · omega
    · have := (h.base_le k hk.symm).1; omega)
theorem own_setCell (h : d.Own (g < ·) base w E v xs) (hg : g < base) (o : Nat) (u : Value) : d.Own (g < ·) base (w.setCell ⟨g, o, none⟩ u) E v xs :=
  h.keep fun k _ hk => Below.heap_setCell _ _ _ _ (by
    rcases hk with hk | hk
    · show k ≠ g; omega
    · have := (h.base_le k hk.symm).1; show k ≠ g; omega)
theorem row_setRow (h : d.Row (fun k => g < k ∧ p k) w A n c xs) (q : Nat) (hq : q ≤ g) (C : Array Value) : d.Row (fun k => g < k ∧ p k) (w.setRow q C) A n c xs :=
  h.keep fun k hk _ => heap_setRow_far _ _ _ (by have := hk.1; omega)
theorem row_setCell (h : d.Row (fun k => g < k ∧ p k) w A n c xs) (o : Nat) (u : Value) : d.Row (fun k => g < k ∧ p k) (w.setCell ⟨g, o, none⟩ u) A n c xs :=
  h.keep fun k hk _ => Below.heap_setCell _ _ _ _ (by have := hk.1; show k ≠ g; omega)
end
variable {α : Type} {d : Kd α} {ok ok' : Nat → Prop} {base g n cap i : Nat} {w : World} {E : TypeId} {v : Value} {xs : List α} {y : α} {cs : List Value} {cur : Array Value}
theorem flat_set {s : Nat} : ∀ {css : List (List Value)} {i : Nat}, (∀ c ∈ css, c.length = s) → i < css.length → (css.set i cs).flatten = css.flatten.take (i * s) ++ cs ++ css.flatten.drop (i * s + s)
  | [], _, _, hi => by simp at hi
  | c :: r, 0, h, _ => by
    have hc : c.length = s := h c (by simp)
    rw [Nat.zero_mul, List.take_zero, List.nil_append, Nat.zero_add, List.flatten_cons, List.set_cons_zero, List.flatten_cons, List.drop_append_of_le_length (by omega), List.drop_eq_nil_of_le (by omega), List.nil_append]
  | c :: r, i + 1, h, hi => by
    have hc : c.length = s := h c (by simp)
    have ih := flat_set (css := r) (i := i) (fun x hx => h x (by simp [hx])) (by simpa using hi)
    have e1 : List.drop (s + i * s + s) (c ++ r.flatten) = List.drop (i * s + s) r.flatten := by
      rw [List.drop_append, List.drop_eq_nil_of_le (by omega), List.nil_append, hc]
      congr 1
      omega
    have e2 : List.take (s + i * s) (c ++ r.flatten) = c ++ List.take (i * s) r.flatten := by
      rw [List.take_append, List.take_of_length_le (by omega), hc, Nat.add_sub_cancel_left]
    rw [List.set_cons_succ, List.flatten_cons, List.flatten_cons, ih, Nat.add_mul, Nat.one_mul, Nat.add_comm (i * s) s, e1, e2, Nat.add_comm s (i * s)]
    simp only [List.append_assoc]
theorem Kd.Own.set (h : d.Own ok base w E (.slice (some ⟨g, 0, none⟩) n cap) xs) (hi : i < xs.length) (hg : w.heap[g]? = some (.cells cur E (0, 0))) (hy : d.K (fun k => ok k ∧ k ≠ g) w y cs) :
    i * d.sz + d.sz ≤ cur.size ∧ d.Own ok base (w.setRow g (splice cur (i * d.sz) cs.toArray)) E (.slice (some ⟨g, 0, none⟩) n cap) (xs.set i y) := by
  obtain ⟨css, he, ho⟩ := h
  have hl := he.lens
  have hcs : cs.length = d.sz := d.len hy
  rcases ho with ⟨hfl, ⟨e, _⟩ | ⟨g', cap', cur', e, hb, hg', hn, hm, hs, ht⟩⟩
  · cases e
  · cases e
    rw [hg] at hg'
    obtain rfl : cur = cur' := by injection hg' with h1; injection h1
    have hle : (i + 1) * d.sz ≤ xs.length * d.sz := Nat.mul_le_mul_right _ hi
    have hle2 : xs.length * d.sz ≤ cap * d.sz := Nat.mul_le_mul_right _ hn
    rw [Nat.add_mul, Nat.one_mul] at hle
    have hsz : i * d.sz + d.sz ≤ cur.size := by omega
    have hkeep : ∀ k, (ok k ∧ some k ≠ some g) → (w.setRow g (splice cur (i * d.sz) cs.toArray)).heap[k]? = w.heap[k]? := fun k hk => heap_setRow_far _ _ _ (fun e => hk.2 (by rw [e]))
    refine ⟨hsz, css.set i cs, ⟨by rw [List.length_set, List.length_set, he.1], fun j x c hx hc => ?_⟩, ?_⟩
    · by_cases hj : i = j
      · subst hj
        rw [List.getElem?_set_self (by exact hi)] at hx
        rw [List.getElem?_set_self (by rw [he.1]; exact hi)] at hc
        obtain rfl := Option.some.inj hx
        obtain rfl := Option.some.inj hc
        exact d.keep hkeep (d.more (fun k hk => ⟨hk.1, fun e => hk.2 (Option.some.inj e)⟩) hy)
      · rw [List.getElem?_set_ne hj] at hx hc
        exact d.keep hkeep (he.2 j x c hx hc)
    · have hf := flat_set (cs := cs) hl (show i < css.length by rw [he.1]; exact hi)
      have hcat : ∀ L : List Value, L.length = cap * d.sz → (L.take (i * d.sz) ++ cs ++ L.drop (i * d.sz + d.sz)).take (xs.length * d.sz) = (L.take (xs.length * d.sz)).take (i * d.sz) ++ cs ++ (L.take (xs.length * d.sz)).drop (i * d.sz + d.sz) := by
        intro L hL
        rw [List.take_take, Nat.min_eq_left (by omega), List.drop_take, List.append_assoc, List.append_assoc, List.take_append, List.take_of_length_le (l := L.take (i * d.sz)) (by rw [List.length_take]; omega), List.take_append, List.take_of_length_le (l := cs) (by rw [List.length_take]; omega)]
        congr 3
        rw [List.length_take, hcs]; omega
      refine ⟨?_, .inr ⟨g, cap, _, by rw [List.length_set], hb, setRow_heap w g cur _ E _ hg, by rw [List.length_set]; exact hn, hm, ?_, ?_⟩⟩
      · rw [hf, List.length_append, List.length_append, List.length_take, List.length_drop, hfl, List.length_set, hcs]; omega
      · rw [splice_size _ _ _ (by rw [List.size_toArray, hcs]; exact hsz)]; exact hs
      · rw [List.length_set, hf, ← ht]
        simp only [splice, List.size_toArray, hcs]
        exact hcat cur.toList (by rw [Array.length_toList]; exact hs)
end Go.Proofs.YtdkeflhgengblaaDoor
namespace Go.Proofs.YtdkeflhgengblaaDoor
open Go.RowKit
attribute [local go_sem ↓] ld16 ld17 ld32 ld36 ld37
attribute [local go_sem] run_ldAgg run_storeAgg agg_alloc_at agg_alloc_past agg_drew agg_setCell row_alloc_at row_alloc_past row_drew setRow_alloc_at setRow_alloc_past setRow_drew agg_setRow_at agg_setRow_far cell_setRow_at cell_setRow_far row_setRow_far size_setRow tgC_size tgC_one tgC_part tgC_splice tokC_size tokC_0 tokC_1 tokC_2 tokC_3 tokC_g0 tokC_g1 tokC_g2 tokC_g3 tokC_part tokC_tag tokC_set0 tokC_set1 tokC_set2 tokC_set3 tokC_splice tokC_splice0 tgC_splice_any zero_tg zero_tok tokC_all tokC_ne tgC_ne
attribute [local go_sem] bunC_size bunC_0 bunC_1 bunC_2 bunC_3 bunC_36 bunC_g3 bunC_g36 bunC_part bunC_root bunC_set36 bunC_splice bunC_splice0 zero_bun bunC_all bunC_ne

def BDecoded (w : World) (xs : List UInt8) (e : Ending) (w' : World) : Prop :=
  ∃ A n c B m d, e = .returned (.tuple #[bunV ((bvalD xs).getD Bun.zero) A n c B m d, .int .i64 (bcodeD xs : Int)]) ∧ kCav.Row (fun k => w.heap.size ≤ k) w' A n c ((bvalD xs).getD Bun.zero).root.cavs ∧
    kTok.Row (fun k => w.heap.size ≤ k) w' B m d ((bvalD xs).getD Bun.zero).dis ∧ Below w.heap.size w w'
theorem bdec_fail {xs : List UInt8} {k : Nat} {w W : World} (h1 : bvalD xs = none) (h2 : bcodeD xs = k) (i : Int) (hi : i = (k : Int)) (hB : Below w.heap.size w W) : BDecoded w xs (.returned (.tuple #[.agg bunZ, .int .i64 i])) W := by
  subst hi
  unfold BDecoded
  rw [h1, h2]
  exact ⟨none, 0, 0, none, 0, 0, rfl, .nil _ _ _ _ _ (Nat.zero_le _), .nil _ _ _ _ _ (Nat.zero_le _), hB⟩
theorem bdec_none {xs : List UInt8} (h : ¬ 65536 < xs.length) (hd : bdec xs = none) : bvalD xs = none ∧ bcodeD xs = 2 := by
  simp [bvalD, bcodeD, h, hd]
set_option maxRecDepth 100000 in
set_option maxHeartbeats 1000000 in
theorem c_bdecode (A : Option Addr) (n c : Nat) (xs : List UInt8) (ok : Nat → Prop) (w : World) (hR : kU8.Row ok w A n c xs) :
    Calls Tryd.prog 142 #[.slice A n c] w (BDecoded w xs) := by
  have HR := hide hR
  have hnm : n ≤ 9223372036854775807 := Nat.le_trans hR.2.1 hR.2.2.1
  have HL := hide hR.1
  clear hR
  by_cases hlong : 65536 < n
  · have HV : Hid (bvalD xs = none) := hide (by have := HL.out; simp [bvalD]; omega)
    have HC : Hid (bcodeD xs = 3) := hide (by have := HL.out; simp [bcodeD]; omega)
    go_enter Tryd.func142, Tryd.ntmps142
    go_wp2_with fail
    exact bodyPost_ret (v := .tuple #[.agg bunZ, .int .i64 3]) (by simp [results, Tryd.results142, go_sem]) rfl (bdec_fail HV.out HC.out 3 rfl (below1 _ _))
  · have HNL : Hid (¬ 65536 < xs.length) := hide (by rw [HL.out]; exact hlong)
    have hn : n ≤ 65536 := by omega
    go_enter Tryd.func142, Tryd.ntmps142
    go_wp2_with fail
    refine (c_fall A n c xs ok _ (HR.out.alloc _) (by omega)).mono ?_
    rintro e w1 ⟨b1, v, b, rfl, hb, ho⟩
    have HB1 := hide (bnext (below1 _ _) b1)
    have hz1 : row? w1 w.heap.size = some bunZ := row_of ((b1.block w.heap.size (by simp)).trans (heap_alloc_new _ _))
    have hw1 : w.heap.size < w1.heap.size := by have := b1.size; simp only [World.size_alloc] at this; omega
    clear b1
    cases hf : fall xs with
    | none =>
      rw [hf] at hb ho
      have HPN := hide (bdec_none HNL.out (by rw [bdec, hf]; rfl))
      obtain ⟨A1, c1, rfl⟩ := ho.form
      subst hb
      clear hf ho
      simp only [Option.isSome_none]
      go_wp2_with fail
      exact bodyPost_ret (v := .tuple #[.agg bunZ, .int .i64 2]) (by simp [results, Tryd.results142, go_sem, hz1]) rfl (bdec_fail HPN.out.1 HPN.out.2 2 rfl (bsetRow HB1.out (Nat.le_refl _) _))
    | some l =>
      rw [hf] at hb ho
      obtain ⟨A1, c1, rfl, hr1⟩ := ho.row
      subst hb
      simp only [Option.getD_some] at hr1
      have HFA := hide hf
      have HFS := hide (fall_size hf)
      have HFL := hide (fall_len _ xs l (Nat.le_refl _) hf)
      clear hf ho
      simp only [Option.isSome_some, Option.getD_some]
      by_cases hl0 : l.length = 0
      · have HPN := hide (bdec_none HNL.out (by rw [bdec, HFA.out, Option.bind_some, if_pos (List.eq_nil_of_length_eq_zero hl0)]))
        go_wp2_with fail
        exact bodyPost_ret (v := .tuple #[.agg bunZ, .int .i64 2]) (by simp [results, Tryd.results142, go_sem, hz1]) rfl (bdec_fail HPN.out.1 HPN.out.2 2 rfl (bsetRow HB1.out (Nat.le_refl _) _))
      · have hl0i : ¬ (l.length : Int) = 0 := by omega
        have hl0b : ((l.length : Int) == 0) = false := beq_eq_false_iff_ne.2 hl0i
        have HNE : Hid (l ≠ []) := hide (fun e => hl0 (by rw [e]; rfl))
        have HBD : Hid (bdec xs = (bparse l).bind fun x => if checkB x then some x else none) := hide (by rw [bdec, HFA.out, Option.bind_some, if_neg HNE.out])
        have HRL := hide (hr1.bound.more (ok' := (· < w1.heap.size)) fun k hk => hk.2)
        have hll : l.length ≤ 65536 := by have := HFL.out; have := HL.out; omega
        clear hr1
        go_wp2_with fail
        go_loopw [30] (fun i wr => ∃ (k : Nat) (t : Tok) (ds : List Tok) (A2 : Option Addr) (n2 c2 : Nat) (V : Value), k ≤ l.length ∧ i = .int .i64 (k : Int) ∧
          Hid (wr.heap[w1.heap.size]? = some (.cells (bunC (.int .u64 (t.key : Int)) (.string t.id) (.slice A2 n2 c2) (.bool t.bnd) t.tag V) 61)) ∧
          Hid (kCav.Row (fun k => w1.heap.size < k ∧ some k ≠ V.ownBlock) wr A2 n2 c2 t.cavs) ∧ Hid (kTok.Own (fun k => w1.heap.size < k) (w1.heap.size + 1) wr 44 V ds) ∧ Hid (bparse (l.take k) = some ⟨t, ds⟩) ∧ Hid (ds.length ≤ k) ∧ Hid (Below w1.heap.size w1 wr)) (fun i _ => l.length - (intOf i).toNat)
        case atStart =>
          refine ⟨0, Tok.zero, [], none, 0, 0, .slice none 0 0, Nat.zero_le _, rfl, hide ?_, hide (.nil _ _ _ _ _ (Nat.zero_le _)), hide (.nil _ _ _ _ _), hide rfl, hide (Nat.le_refl _), hide ?_⟩
          · exact heap_alloc_new _ _
          · exact below1 _ _
        case round =>
          obtain ⟨k, t, ds, A2, n2, c2, V, hk, rfl, HQ, HRT, HOD, HBP, HDL, HB⟩ := hrel
          have hgs : w1.heap.size < wr.heap.size := (Array.getElem?_eq_some_iff.1 HQ.out).1
          have hzg : w.heap.size < w1.heap.size := hw1
          have hzr : row? wr w.heap.size = some bunZ := by
            have := hz1
            unfold row? at this ⊢
            rw [HB.out.block _ hzg]
            exact this
          have HBW : Hid (Below w.heap.size w wr) := hide (HB1.out.trans (HB.out.mono (by omega)))
          by_cases hlt : k < l.length
          · obtain ⟨f, hx⟩ : ∃ f, l[k]? = some f := ⟨_, List.getElem?_eq_getElem hlt⟩
            obtain ⟨b, q, cs, hix, -, hbl, hK, hra⟩ := (HRL.out.belowB (w' := wr) HB.out).index (P := Tryd.prog) Tryd.underlying169 (E := 144) fld_size hx
            have hKe := hK.1
            subst hKe
            have hc0 := hra 0 _ rfl
            have hc1 := hra 1 _ rfl
            simp only [Nat.add_zero] at hc0
            have HTK : Hid (l.take (k + 1) = l.take k ++ [f]) := hide (by rw [List.take_add_one, hx]; rfl)
            have HFV := hide (HFS.out f (List.mem_of_getElem? hx))
            clear hx hK hra
            go_wp2_with (refine at_tobytes (P := Tryd.prog) 9 22 f.value rfl Tryd.underlying9 Tryd.underlying22 Tryd.underlying5 ?_ (wr.heap.size + 1) (by simp) ?_)
            · have := HFV.out; have := HL.out; omega
            intro c4 w4 hr4 b4 hl4
            have HR4 := hide hr4
            have HB4 := hide b4
            have hg4 := (b4.block wr.heap.size (by omega)).trans (heap_alloc_new _ _)
            have HG4 := hide hg4
            clear hr4 b4 hg4 hc0 hc1 hix hbl
            go_wp2_with fail
            refine (c_decode _ _ c4 _ _ w4 HR4.out (by have := HFV.out; have := HL.out; omega)).mono ?_
            rintro e w5 ⟨A5, n5, c5, rfl, ho5, b5⟩
            have hw45 := b5.size
            have HB5 := hide (HB.out.trans ((below1 wr _).mono (by omega) |>.trans ((HB4.out.mono (by omega)).trans (b5.mono (by omega)))))
            have HW5 := hide ((below1 wr _).trans ((HB4.out.mono (by omega)).trans (b5.mono (by omega))))
            have hg5 := (b5.block _ (by omega)).trans HG4.out
            have hk0 : w5.cell? ⟨wr.heap.size, 0, none⟩ = some (bv f.kind) := (cell_of_row w5 _ _ _ _ _ hg5).trans rfl
            have hs5 : wr.heap.size < w5.heap.size := by omega
            have hg5' : w1.heap.size < w5.heap.size := by omega
            have hz5' : w.heap.size < w5.heap.size := by omega
            have hgz : ¬ w1.heap.size = w.heap.size := by omega
            have hzg' : ¬ w.heap.size = w1.heap.size := by omega
            have hzr5 : row? w5 w.heap.size = some bunZ := by
              unfold row? at hzr ⊢
              rw [HW5.out.block _ (by omega)]
              exact hzr
            have HQ5 : Hid (w5.heap[w1.heap.size]? = some (.cells (bunC (.int .u64 (t.key : Int)) (.string t.id) (.slice A2 n2 c2) (.bool t.bnd) t.tag V) 61)) := hide ((HW5.out.block _ hgs).trans HQ.out)
            have HBW5 : Hid (Below w.heap.size w w5) := hide (HB1.out.trans (HB5.out.mono (by omega)))
            clear b5 hg5 hzr
            cases hp : pdec (byt f.value) with
            | none =>
              have HPN := hide (bdec_none HNL.out (by
                rw [HBD.out, bparse_none (k := k + 1) (by
                  rw [HTK.out]
                  cases hlk : l.take k with
                  | nil => rw [List.nil_append, bparse_one, hp]; split <;> rfl
                  | cons a r =>
                    rw [← hlk, bparse_snoc _ (by rw [hlk]; simp), HBP.out, Option.bind_some, hp]
                    split <;> rfl)]
                rfl))
              rw [hp] at ho5
              clear hp ho5
              simp only [Option.getD_none, Option.isSome_none, Bool.false_eq_true, if_false]
              go_wp2_with fail
              exact bodyPost_ret (v := .tuple #[.agg bunZ, .int .i64 2]) (by simp [results, Tryd.results142, go_sem, hzr5, hz5']) rfl (bdec_fail HPN.out.1 HPN.out.2 2 rfl (by repeat (first | exact HBW5.out | refine Below.alloc ?_ (by simp; omega) _ | refine bsetRow ?_ (by omega) _)))
            | some y =>
              rw [hp] at ho5
              simp only [Option.getD_some] at ho5
              simp only [Option.getD_some, Option.isSome_some, if_true]
              have HYR : Hid (kCav.Row (fun k => w1.heap.size < k ∧ some k ≠ V.ownBlock) w5 A5 n5 c5 y.cavs) := hide ((own_row_of ho5).more fun k hk => by
                rcases hk with hk | hk
                · exact hk.elim
                · have h1 := ho5.base_le k hk.symm
                  refine ⟨by omega, fun e => ?_⟩
                  have h2 := own_block_lt HOD.out k e.symm
                  omega)
              by_cases hk0' : k = 0
              · subst hk0'
                by_cases h16 : f.kind = 16
                · have h16' : (f.kind.toNat : Int) = 16 := by rw [h16]; rfl
                  have HNX : Hid (bparse (l.take (0 + 1)) = some ⟨y, []⟩) := hide (by
                    rw [HTK.out]
                    simp only [List.take_zero, List.nil_append]
                    rw [bparse_one, hp, if_pos h16]
                    rfl)
                  have hds : ds = [] := List.eq_nil_of_length_eq_zero (by have := HDL.out; omega)
                  subst hds
                  have HOD5 := hide (HOD.out.below HW5.out)
                  have hrg : row? w5 w1.heap.size = some (bunC (.int .u64 (t.key : Int)) (.string t.id) (.slice A2 n2 c2) (.bool t.bnd) t.tag V) := row_of HQ5.out
                  clear hp ho5 h16
                  go_wp2_with fail
                  go_roundw
                  case rel =>
                    refine ⟨1, y, [], A5, n5, c5, V, by omega, by simp, hide ?_, hide ?_, hide ?_, HNX, hide (by simp), hide ?_⟩
                    · exact (Below.heap_alloc _ _ _ (by simp only [size_setRow]; omega)).trans (setRow_heap _ _ _ _ _ _ HQ5.out)
                    · exact (row_setRow HYR.out _ (Nat.le_refl _) _).alloc _
                    · exact (own_setRow HOD5.out (Nat.lt_succ_self _) _ (Nat.le_refl _) _).below (below1 _ _)
                    · exact (bsetRow HB5.out (Nat.le_refl _) _).alloc (by simp only [size_setRow]; omega) _
                  case measure => simp [intOf]; omega
                · have h16' : ¬ (f.kind.toNat : Int) = 16 := fun e => h16 (UInt8.toNat_inj.1 (by have h : (16 : UInt8).toNat = 16 := rfl; omega))
                  have HPN := hide (bdec_none HNL.out (by
                    rw [HBD.out, bparse_none (k := 0 + 1) (by
                      rw [HTK.out, List.take_zero, List.nil_append, bparse_one, if_neg h16])]
                    rfl))
                  clear hp ho5 h16
                  go_wp2_with fail
                  exact bodyPost_ret (v := .tuple #[.agg bunZ, .int .i64 2]) (by simp [results, Tryd.results142, go_sem, hzr5, hz5']) rfl (bdec_fail HPN.out.1 HPN.out.2 2 rfl (by repeat (first | exact HBW5.out | refine Below.alloc ?_ (by simp; omega) _ | refine bsetRow ?_ (by omega) _)))
              · have hkp : 0 < k := by omega
                have hk0i : ¬ (k : Int) = 0 := by omega
                by_cases h17 : f.kind = 17
                · have h17' : (f.kind.toNat : Int) = 17 := by rw [h17]; rfl
                  have HNX : Hid (bparse (l.take (k + 1)) = some ⟨t, ds ++ [y]⟩) := hide (by
                    rw [HTK.out, bparse_snoc _ (fun e => by have := congrArg List.length e; rw [List.length_take] at this; simp only [List.length_nil] at this; omega), HBP.out, Option.bind_some, if_pos h17, hp]
                    rfl)
                  have HYK := hide (pdec_back hp).2.2.1
                  obtain ⟨B, d, rfl⟩ := HOD.out.form
                  have hdis : w5.cell? ⟨w1.heap.size, 36, none⟩ = some (.slice B ds.length d) := (cell_of_row w5 _ _ _ _ _ HQ5.out).trans (bunC_36 _ _ _ _ _ _)
                  have HOD5 := hide (HOD.out.below HW5.out)
                  clear hp h17 ho5
                  go_wp2_with (first | refine at_buildTok _ _ _ _ _ _ rfl _ rfl ?_ | at_builtin; go_must (refine wpList_app (d := kTok) (ys := [y]) rfl _ _ _ rfl Tryd.underlying59 tok_info rfl (by decide) 1 rfl rfl (.inl ((HOD5.out.below (below1 _ _)).below (below1 _ _))) (Kd.Src.new (d := kTok) (ok := fun k => w1.heap.size < k ∧ some k ≠ (Value.slice B ds.length d).ownBlock) (cs := (tokA y A5 n5 c5).toList) ⟨A5, n5, c5, rfl, ?_, HYK.out⟩ _ rfl _ ?_) ?_ ?_ ?_ ?_))
                  · exact (HYR.out.alloc _)
                  · simp
                  · simp only [World.size_alloc]; omega
                  · have := HDL.out; simp only [maxLen]; omega
                  · have := HDL.out; omega
                  · intro v1 w6 _ h2 h3 h4 h5
                    have hq6 : w6.heap[w1.heap.size]? = some (.cells (bunC (.int .u64 (t.key : Int)) (.string t.id) (.slice A2 n2 c2) (.bool t.bnd) t.tag (.slice B ds.length d)) 61) :=
                      (h3.block _ (Nat.lt_succ_self _)).trans ((below2 w5 _ _).block _ hg5' |>.trans HQ5.out)
                    have hfz : ∀ j, w6.frozen? ⟨w1.heap.size, j, none⟩ = false := fun j => frozen_of_row w6 _ _ _ _ hq6
                    have hc6 : w6.cell? ⟨w1.heap.size, 36, none⟩ = some (.slice B ds.length d) := (cell_of_row w6 _ _ _ _ _ hq6).trans (bunC_36 _ _ _ _ _ _)
                    have hk6 : ∀ k, k < w5.heap.size → some k ≠ (Value.slice B ds.length d).ownBlock → w6.heap[k]? = w5.heap[k]? := fun k hk hne =>
                      (h4 k (by first | omega | (simp only [World.size_alloc]; omega)) hne).trans ((below2 w5 _ _).block k hk)
                    have hv1 : ∀ k, k < w5.heap.size → some k ≠ (Value.slice B ds.length d).ownBlock → some k ≠ v1.ownBlock := fun k hk hne e => by
                      rcases h5 with h5 | ⟨k', h5, h6⟩
                      · rw [h5] at e; exact hne e
                      · rw [h5] at e
                        have := Option.some.inj e
                        first | omega | (simp only [World.size_alloc] at h6; omega)
                    have HRT6 : Hid (kCav.Row (fun k => w1.heap.size < k ∧ some k ≠ v1.ownBlock) w6 A2 n2 c2 t.cavs) := hide (
                      (((HRT.out.below HW5.out).bound.more (ok' := fun k => (w1.heap.size < k ∧ some k ≠ v1.ownBlock) ∧ (k < w5.heap.size ∧ some k ≠ (Value.slice B ds.length d).ownBlock)) fun k hk => ⟨⟨hk.1.1, hv1 k hk.2 hk.1.2⟩, hk.2, hk.1.2⟩).keep fun k hk _ => hk6 k hk.2.1 hk.2.2).more fun k hk => hk.1)
                    have HQ6 := hide hq6
                    obtain ⟨Bv, dv, hve⟩ := h2.form
                    rw [List.length_append, List.length_singleton] at hve
                    subst hve
                    have H2 := hide h2
                    have HB6 : Hid (Below w1.heap.size w1 w6) := hide (HB5.out.trans (((below2 w5 _ _).mono (by omega)).trans (h3.mono (Nat.le_succ _))))
                    clear h2 h3 h4 h5 hq6 hk6 hv1
                    go_wp2_with fail
                    go_roundw
                    case rel =>
                      refine ⟨k + 1, t, ds ++ [y], A2, n2, c2, .slice Bv (ds.length + 1) dv, by omega, by simp, hide ?_, hide ?_, hide ?_, HNX, hide (by have := HDL.out; simp; omega), hide ?_⟩
                      · exact (heap_cellAt HQ6.out _).trans (by rw [bunC_set36])
                      · exact row_setCell HRT6.out _ _
                      · exact own_setCell H2.out (Nat.lt_succ_self _) _ _
                      · exact HB6.out.setCell (Nat.le_refl _) _
                    case measure => simp [intOf]; omega
                · have h17' : ¬ (f.kind.toNat : Int) = 17 := fun e => h17 (UInt8.toNat_inj.1 (by have h : (17 : UInt8).toNat = 17 := rfl; omega))
                  have HPN := hide (bdec_none HNL.out (by
                    rw [HBD.out, bparse_none (k := k + 1) (by
                      rw [HTK.out, bparse_snoc _ (fun e => by have := congrArg List.length e; rw [List.length_take] at this; simp only [List.length_nil] at this; omega), HBP.out, Option.bind_some, if_neg h17])]
                    rfl))
                  clear hp ho5 h17
                  go_wp2_with fail
                  exact bodyPost_ret (v := .tuple #[.agg bunZ, .int .i64 2]) (by simp [results, Tryd.results142, go_sem, hzr5, hz5']) rfl (bdec_fail HPN.out.1 HPN.out.2 2 rfl (by repeat (first | exact HBW5.out | refine Below.alloc ?_ (by simp; omega) _ | refine bsetRow ?_ (by omega) _)))
          · obtain rfl : k = l.length := by omega
            rw [List.take_of_length_le (Nat.le_refl _)] at HBP
            obtain ⟨B, d, rfl, hrd⟩ := HOD.out.row
            have hag : agg? wr ⟨w1.heap.size, 0, none⟩ 37 = some (bunA ⟨t, ds⟩ A2 n2 c2 B ds.length d) := by
              rw [agg_of_row HQ.out 0 37 (by decide)]
              exact bunC_part _ _ _ _ _ _
            have HRD := hide hrd
            clear hrd
            go_wp2_with fail
            refine (c_bcheck ⟨t, ds⟩ A2 B n2 c2 ds.length d _ _ wr HRT.out HRD.out).mono ?_
            rintro e w9 ⟨rfl, b9⟩
            have hz9 : row? w9 w.heap.size = some bunZ := by
              unfold row? at hzr ⊢
              rw [b9.block _ (by omega)]
              exact hzr
            have hag9 : agg? w9 ⟨w1.heap.size, 0, none⟩ 37 = some (bunA ⟨t, ds⟩ A2 n2 c2 B ds.length d) := by
              rw [agg_of_row ((b9.block _ hgs).trans HQ.out) 0 37 (by decide)]
              exact bunC_part _ _ _ _ _ _
            have HB9 := hide (HBW.out.trans (b9.mono HBW.out.size))
            have HRT9 := hide (HRT.out.below b9)
            have HRD9 := hide (HRD.out.below b9)
            have HOB : Hid (∀ k, (w1.heap.size < k ∨ some k = (Value.slice B ds.length d).ownBlock) → w1.heap.size < k) := hide (fun k h => by
              rcases h with h | h
              · exact h
              · have := (HOD.out.base_le k h.symm).1; omega)
            clear b9 hzr hag
            cases hc : checkB ⟨t, ds⟩ with
            | true =>
              have hbd : bdec xs = some ⟨t, ds⟩ := by rw [HBD.out, HBP.out, Option.bind_some, if_pos hc]
              have HV : Hid (bvalD xs = some ⟨t, ds⟩) := hide (by rw [bvalD, if_neg HNL.out, hbd])
              have HCD : Hid (bcodeD xs = 0) := hide (by rw [bcodeD, if_neg HNL.out, hbd]; rfl)
              clear hc hbd
              simp only [errV]
              go_wp2_with fail
              exact bodyPost_ret (v := .tuple #[.agg (bunA ⟨t, ds⟩ A2 n2 c2 B ds.length d), .int .i64 0]) (by simp [results, Tryd.results142, go_sem, hz9]) rfl (by
                unfold BDecoded
                rw [HV.out, HCD.out]
                exact ⟨A2, n2, c2, B, ds.length, d, rfl, (row_setRow HRT9.out _ (by omega) _).more (fun k hk => by have := hk.1; omega), (row_setRow (p := fun _ => True) (HRD9.out.more fun k h => ⟨HOB.out k h, trivial⟩) _ (by omega) _).more (fun k hk => by have := hk.1; omega), bsetRow HB9.out (Nat.le_refl _) _⟩)
            | false =>
              have HPN := hide (bdec_none HNL.out (by rw [HBD.out, HBP.out, Option.bind_some, if_neg (by rw [hc]; decide)]))
              clear hc
              simp only [errV]
              go_wp2_with fail
              exact bodyPost_ret (v := .tuple #[.agg bunZ, .int .i64 2]) (by simp [results, Tryd.results142, go_sem, hz9]) rfl (bdec_fail HPN.out.1 HPN.out.2 2 rfl (bsetRow HB9.out (Nat.le_refl _) _))
end Go.Proofs.YtdkeflhgengblaaDoor
namespace Go.Proofs.YtdkeflhgengblaaDoor
open Go.RowKit

/-- What was answered. -/
structure Out where
  bytes : ByteArray
  whole : Bool
  pub : Bool
  deriving DecidableEq
def Out.cells (o : Out) : List Value := [.string o.bytes, .bool o.whole, .bool o.pub]
def kOut : Kd Out where
  sz := 3
  K _ _ o cs := cs = o.cells ∧ o.bytes.size ≤ maxLen
  len h := by rw [h.1]; rfl
  one h u hu := by
    rw [h.1] at hu
    simp [Out.cells] at hu
    rcases hu with rfl | rfl | rfl <;> rfl
  keep _ h := h
  more _ h := h
  bound h := h
theorem out_info : (Tryd.prog.info? 93).map (fun i => (i.zero, i.size, i.bytes)) = some (some (.agg #[.string ByteArray.empty, .bool false, .bool false]), 3, 24) := by kernel_rfl
theorem sto_mixed : Tryd.prog.follows .mixedOrders = true := by kernel_rfl
theorem row_out {ok ok' : Nat → Prop} {w : World} {A : Option Addr} {n c : Nat} {xs : List Out} (h : kOut.Row ok w A n c xs) (hk : ∀ k, k < w.heap.size → ok k → ok' k) : kOut.Row ok' w A n c xs := h.bound.more fun k hk' => hk k hk'.2 hk'.1
theorem src_out {ok ok' : Nat → Prop} {w : World} {A : Option Addr} {m : Nat} {xs : List Out} (h : kOut.Src ok w A m xs) : kOut.Src ok' w A m xs := let ⟨h1, css, he, hc⟩ := h; ⟨h1, css, ⟨he.1, fun i x cs hx hcs => he.2 i x cs hx hcs⟩, hc⟩

/-- A store: its struct is block g, its row the value v. -/
def StoreAt (base : Nat) (w : World) (g : Nat) (v : Value) (l : List Out) : Prop :=
  base ≤ g ∧ w.heap[g]? = some (.cells #[v] 147) ∧ kOut.Own (fun _ => True) base w 93 v l
theorem Own.typed {α : Type} {d : Kd α} {ok : Nat → Prop} {base : Nat} {w : World} {E : TypeId} {v : Value} {xs : List α} (h : d.Own ok base w E v xs) {k : Nat} (hk : v.ownBlock = some k) : ∃ cs, w.heap[k]? = some (.cells cs E (0, 0)) := by
  obtain ⟨css, _, ho⟩ := h
  rcases ho.2 with ⟨rfl, _⟩ | ⟨g, cap, cur, rfl, _, hg, _⟩
  · simp [Value.ownBlock] at hk
  · have : g = k := by simpa [Value.ownBlock] using hk
    subst this
    exact ⟨_, hg⟩
theorem StoreAt.ne {base : Nat} {w : World} {g : Nat} {v : Value} {l : List Out} (h : StoreAt base w g v l) : v.ownBlock ≠ some g := by
  intro e
  obtain ⟨cs, hc⟩ := Own.typed h.2.2 e
  rw [h.2.1] at hc
  injection hc with hc
  injection hc with _ ht
  exact absurd ht (by decide)
theorem StoreAt.keep {base : Nat} {w w' : World} {g : Nat} {v : Value} {l : List Out} (h : StoreAt base w g v l) (hk : ∀ k, k < w.heap.size → (k = g ∨ some k = v.ownBlock) → w'.heap[k]? = w.heap[k]?) : StoreAt base w' g v l := by
  obtain ⟨h1, h2, css, he, ho⟩ := h
  have hg : g < w.heap.size := by
    rcases Nat.lt_or_ge g w.heap.size with h' | h'
    · exact h'
    · rw [Array.getElem?_eq_none h'] at h2; cases h2
  refine ⟨h1, (hk g hg (.inl rfl)).trans h2, css, ⟨he.1, fun i x cs hx hc => he.2 i x cs hx hc⟩, ho.1, ?_⟩
  rcases ho.2 with hn | ⟨q, cap, cur, rfl, hb, hq, r⟩
  · exact .inl hn
  · exact .inr ⟨q, cap, cur, rfl, hb, (hk q (Array.getElem?_eq_some_iff.1 hq).1 (.inr rfl)).trans hq, r⟩
theorem StoreAt.below {base : Nat} {w w' : World} {g : Nat} {v : Value} {l : List Out} (h : StoreAt base w g v l) (hb : Below w.heap.size w w') : StoreAt base w' g v l := h.keep fun k hk _ => hb.block k hk
theorem StoreAt.lt {base : Nat} {w : World} {g : Nat} {v : Value} {l : List Out} (h : StoreAt base w g v l) : g < w.heap.size := by
  rcases Nat.lt_or_ge g w.heap.size with h' | h'
  · exact h'
  · have := h.2.1; rw [Array.getElem?_eq_none h'] at this; cases this
theorem StoreAt.lower {base base' : Nat} {w : World} {g : Nat} {v : Value} {l : List Out} (h : StoreAt base w g v l) (hb : base' ≤ base) : StoreAt base' w g v l := ⟨Nat.le_trans hb h.1, h.2.1, h.2.2.lower hb⟩
theorem StoreAt.cell {base : Nat} {w : World} {g : Nat} {v : Value} {l : List Out} (h : StoreAt base w g v l) : w.cell? ⟨g, 0, none⟩ = some v ∧ w.frozen? ⟨g, 0, none⟩ = false := by
  constructor
  · rw [cell_of_row w _ _ _ _ _ h.2.1]; rfl
  · exact frozen_of_row w _ _ _ _ h.2.1

theorem c_snew (w : World) : Calls Tryd.prog 60 #[] w fun e w' => e = .returned (.pointer (some ⟨w.heap.size, 0, none⟩)) ∧ StoreAt w.heap.size w' w.heap.size (.slice none 0 0) [] ∧ Below w.heap.size w w' := by
  go_enter Tryd.func60, Tryd.ntmps60
  go_wp2
  go_ret
  exact ⟨rfl, ⟨Nat.le_refl _, heap_alloc_new _ _, .nil _ _ _ _ _⟩, (Below.refl _ _).alloc (Nat.le_refl _) _⟩

theorem c_sget_out (base : Nat) (w : World) (g : Nat) (v : Value) (l : List Out) (n : Int) (h : StoreAt base w g v l) (_hn : l.length ≤ 1099511627776) (hx : n < 0 ∨ (l.length : Int) ≤ n) :
    Calls Tryd.prog 130 #[.pointer (some ⟨g, 0, none⟩), .int .i64 n] w fun e w' =>
      e = .returned (.tuple #[.agg #[.string ByteArray.empty, .bool false, .bool false], .bool false]) ∧ Below w.heap.size w w' := by
  obtain ⟨A, c, rfl⟩ := h.2.2.form
  have hc := h.cell.1
  have hlt := h.lt
  clear h
  by_cases h1 : n < 0
  · clear hx
    go_enter Tryd.func130, Tryd.ntmps130
    go_wp2
    exact bodyPost_ret (v := .tuple #[.agg #[.string ByteArray.empty, .bool false, .bool false], .bool false]) (by simp [results, Tryd.results130, go_sem]; rfl) rfl ⟨rfl, by repeat (first | exact Below.refl _ _ | refine Below.alloc ?_ (by simp) _ | refine Below.setCell ?_ (by simp) _)⟩
  · have h2 : (l.length : Int) ≤ n := by omega
    clear hx
    go_enter Tryd.func130, Tryd.ntmps130
    go_wp2
    exact bodyPost_ret (v := .tuple #[.agg #[.string ByteArray.empty, .bool false, .bool false], .bool false]) (by simp [results, Tryd.results130, go_sem]; rfl) rfl ⟨rfl, by repeat (first | exact Below.refl _ _ | refine Below.alloc ?_ (by simp) _ | refine Below.setCell ?_ (by simp) _)⟩
theorem c_sget_in (base : Nat) (w : World) (g : Nat) (v : Value) (l : List Out) (n : Int) (k : Nat) (o : Out) (h : StoreAt base w g v l) (hi : n = k) (ho : l[k]? = some o) :
    Calls Tryd.prog 130 #[.pointer (some ⟨g, 0, none⟩), .int .i64 n] w fun e w' =>
      e = .returned (.tuple #[.agg #[.string o.bytes, .bool o.whole, .bool o.pub], .bool true]) ∧ Below w.heap.size w w' := by
  subst hi
  obtain ⟨A, c, rfl, hr⟩ := h.2.2.row
  have hc := h.cell.1
  have hk : k < l.length := (List.getElem?_eq_some_iff.1 ho).1
  obtain ⟨b, q, cs, hix, -, hb, hK, hra⟩ := hr.index (P := Tryd.prog) Tryd.underlying145 (E := 93) (by kernel_rfl) ho
  have hKe := hK.1
  subst hKe
  have hc0 := hra 0 _ rfl
  have hc1 := hra 1 _ rfl
  have hc2 := hra 2 _ rfl
  simp only [Nat.add_zero] at hc0
  have hlt := h.lt
  clear ho hK hra h hr
  go_enter Tryd.func130, Tryd.ntmps130
  go_wp2
  exact bodyPost_ret (v := .tuple #[.agg #[.string o.bytes, .bool o.whole, .bool o.pub], .bool true]) (by simp [results, Tryd.results130, go_sem]) rfl ⟨rfl, by repeat (first | exact Below.refl _ _ | refine Below.alloc ?_ (by simp) _ | refine Below.setCell ?_ (by simp) _)⟩

theorem out_K (ok : Nat → Prop) (w : World) (b : ByteArray) (x y : Bool) (hb : b.size ≤ maxLen) : kOut.K ok w ⟨b, x, y⟩ [.string b, .bool x, .bool y] := ⟨rfl, hb⟩

theorem own_out {ok ok' : Nat → Prop} {base : Nat} {w : World} {E : TypeId} {v : Value} {xs : List Out} (h : kOut.Own ok base w E v xs) : kOut.Own ok' base w E v xs := let ⟨css, he, r⟩ := h; ⟨css, ⟨he.1, fun i x cs hx hc => he.2 i x cs hx hc⟩, r⟩
theorem put_done {base : Nat} {w w1 : World} {g : Nat} {v v' : Value} {l l' : List Out} {o1 o2 : Obj} (h : StoreAt base w g v l) (hn : v.ownBlock ≠ some g) (hg1 : w1.heap[g]? = some (.cells #[v] 147))
    (h2 : kOut.Own (fun _ => True) base w1 93 v' l') (h3 : Below base ((w.alloc o1).alloc o2).drew w1) (h4 : ∀ k, k < ((w.alloc o1).alloc o2).drew.heap.size → some k ≠ v.ownBlock → w1.heap[k]? = ((w.alloc o1).alloc o2).drew.heap[k]?)
    (h5 : v'.ownBlock = v.ownBlock ∨ ∃ k, v'.ownBlock = some k ∧ ((w.alloc o1).alloc o2).drew.heap.size ≤ k) (hb : base ≤ w.heap.size) :
    StoreAt base (w1.setCell ⟨g, 0, none⟩ v') g v' l' ∧ Below base w (w1.setCell ⟨g, 0, none⟩ v') ∧
      (∀ k, k < w.heap.size → k ≠ g → some k ≠ v.ownBlock → (w1.setCell ⟨g, 0, none⟩ v').heap[k]? = w.heap[k]?) ∧ (v'.ownBlock = v.ownBlock ∨ ∃ k, v'.ownBlock = some k ∧ w.heap.size ≤ k) := by
  have hlt := h.lt
  have hbw : Below w.heap.size w ((w.alloc o1).alloc o2).drew := (((Below.refl _ w).alloc (Nat.le_refl _) o1).alloc (by simp) o2).drew
  have hoth : ∀ k, k ≠ g → (w1.setCell ⟨g, 0, none⟩ v').heap[k]? = w1.heap[k]? := fun k hk => Below.heap_setCell w1 ⟨g, 0, none⟩ v' k hk
  have hv' : v'.ownBlock ≠ some g := by
    rcases h5 with e | ⟨k, e, hk⟩
    · rw [e]; exact hn
    · rw [e]; intro e'; injection e' with e'; have := hbw.size; omega
  refine ⟨⟨h.1, ?_, own_out ((own_out (ok' := fun _ => False) h2).keep fun k _ hk => hoth k ?_)⟩, ?_, fun k hk h1 h2 => ?_, ?_⟩
  · exact one_setCell hg1
  · rcases hk with hk | hk
    · exact hk.elim
    · intro e; subst e; exact hv' hk.symm
  · exact ((hbw.mono hb).trans h3).setCell h.1 _
  · rw [hoth k h1, h4 k (Nat.lt_of_lt_of_le hk hbw.size) h2, hbw.block k hk]
  · rcases h5 with e | ⟨k, e, hk⟩
    · exact .inl e
    · exact .inr ⟨k, e, Nat.le_trans hbw.size hk⟩
theorem put_g {base : Nat} {w w1 : World} {g : Nat} {v : Value} {l : List Out} {o1 o2 : Obj} (h : StoreAt base w g v l) (hn : v.ownBlock ≠ some g) (h4 : ∀ k, k < ((w.alloc o1).alloc o2).drew.heap.size → some k ≠ v.ownBlock → w1.heap[k]? = ((w.alloc o1).alloc o2).drew.heap[k]?) : w1.heap[g]? = some (.cells #[v] 147) := by
  have hlt := h.lt
  have hb : Below w.heap.size w ((w.alloc o1).alloc o2).drew := (((Below.refl _ w).alloc (Nat.le_refl _) o1).alloc (by simp) o2).drew
  rw [h4 g (Nat.lt_of_lt_of_le hlt hb.size) (fun e => hn e.symm), hb.block g hlt]
  exact h.2.1
set_option maxRecDepth 100000 in
set_option maxHeartbeats 400000 in
theorem c_sput (base : Nat) (w : World) (g : Nat) (v : Value) (l : List Out) (b : ByteArray) (x y : Bool) (h : StoreAt base w g v l) (hn : l.length ≤ 1099511627776) (hb : b.size ≤ maxLen) (hbase : base ≤ w.heap.size) :
    Calls Tryd.prog 61 #[.pointer (some ⟨g, 0, none⟩), .agg #[.string b, .bool x, .bool y]] w fun e w' => ∃ v', e = .returned (.int .i64 (l.length : Int)) ∧ StoreAt base w' g v' (l ++ [⟨b, x, y⟩]) ∧ Below base w w' ∧
      (∀ k, k < w.heap.size → k ≠ g → some k ≠ v.ownBlock → w'.heap[k]? = w.heap[k]?) ∧ (v'.ownBlock = v.ownBlock ∨ ∃ k, v'.ownBlock = some k ∧ w.heap.size ≤ k) := by
  have hc := h.cell.1
  have hfz := h.cell.2
  have hlt := h.lt
  have hne := h.ne
  have hform := h.2.2.form
  have ho : kOut.Own (fun _ => True) base ((w.alloc (.cells #[.string b, .bool x, .bool y] 93)).alloc (.cells #[.string b, .bool x, .bool y] 93)).drew 93 v l :=
    (h.2.2.below ((Below.refl _ w).alloc (Nat.le_refl _) (.cells #[.string b, .bool x, .bool y] 93))).below (((Below.refl _ (w.alloc (.cells #[.string b, .bool x, .bool y] 93))).alloc (Nat.le_refl _) (.cells #[.string b, .bool x, .bool y] 93)).drew)
  have hs : kOut.Src (fun k => True ∧ some k ≠ v.ownBlock) ((w.alloc (.cells #[.string b, .bool x, .bool y] 93)).alloc (.cells #[.string b, .bool x, .bool y] 93)).drew (some ⟨w.heap.size + 1, 0, none⟩) 1 [⟨b, x, y⟩] :=
    src_out (ok := fun _ => True) (Kd.Src.new (d := kOut) (ok := fun _ => True) (w := w.alloc (.cells #[.string b, .bool x, .bool y] 93)) (out_K _ _ b x y hb) _ rfl _ (by simp))
  obtain ⟨A, c, hv⟩ := hform
  subst hv
  have HO := hide ho
  have HS := hide hs
  have HH := hide h
  have HN := hide hn
  have hl0 : l.length ≤ 1099511627776 := hn
  have HB := hide hbase
  have HNE := hide hne
  clear h ho hs hn hbase hne hb
  go_enter Tryd.func61, Tryd.ntmps61
  go_wp2
  go_region_law (refine step_app (d := kOut) (v := .slice A l.length c) rfl _ _ _ rfl Tryd.underlying145 out_info rfl (by decide) 1 rfl rfl (.inl HO.out) HS.out (by have := HB.out; simp; omega) (by have := HN.out; simp only [maxLen]; omega) (by have := HN.out; omega) ?_; intro v1 w1 _ h2 h3 h4 h5; obtain ⟨A1, cc1, rfl⟩ := (h2 (.inr HO.out)).form; have H2 := hide (h2 (.inr HO.out)); have H3 := hide h3; have H4 := hide h4; have H5 := hide h5; have hg1 : w1.heap[g]? = some (.cells #[.slice A l.length c] 147) := put_g HH.out HNE.out H4.out; have hc1 : w1.cell? ⟨g, 0, none⟩ = some (.slice A l.length c) := ((cell_of_row w1 _ _ _ _ _ hg1).trans rfl); have hf1 : w1.frozen? ⟨g, 0, none⟩ = false := frozen_of_row w1 _ _ _ _ hg1; have hl1 : g < w1.heap.size := (Array.getElem?_eq_some_iff.1 hg1).1; clear h2 h3 h4 h5)
  all_goals go_wp2
  all_goals go_ret
  all_goals exact ⟨_, rfl, put_done HH.out HNE.out hg1 (by simpa using H2.out) H3.out H4.out (by simpa using H5.out) HB.out⟩
end Go.Proofs.YtdkeflhgengblaaDoor
namespace Go.Proofs.YtdkeflhgengblaaDoor
open Go.RowKit
attribute [local go_sem ↓] ld16 ld17 ld32 ld36 ld37
attribute [local go_sem] run_ldAgg run_storeAgg agg_alloc_at agg_alloc_past agg_drew agg_setCell row_alloc_at row_alloc_past row_drew setRow_alloc_at setRow_alloc_past setRow_drew agg_setRow_at agg_setRow_far cell_setRow_at cell_setRow_far row_setRow_far size_setRow tgC_size tgC_one tgC_part tgC_splice tokC_size tokC_0 tokC_1 tokC_2 tokC_3 tokC_g0 tokC_g1 tokC_g2 tokC_g3 tokC_part tokC_tag tokC_set0 tokC_set1 tokC_set2 tokC_set3 tokC_splice tokC_splice0 tgC_splice_any zero_tg zero_tok tokC_all tokC_ne tgC_ne
attribute [local go_sem] bunC_size bunC_0 bunC_1 bunC_2 bunC_3 bunC_36 bunC_g3 bunC_g36 bunC_part bunC_root bunC_set36 bunC_splice bunC_splice0 zero_bun bunC_all bunC_ne

def BRd (w : World) (o : Option Bun) (k : Nat) (e : Ending) (w' : World) : Prop :=
  ∃ A n c B m d, e = .returned (.tuple #[bunV (o.getD Bun.zero) A n c B m d, .int .i64 (k : Int)]) ∧ kCav.Row (fun k => w.heap.size ≤ k) w' A n c (o.getD Bun.zero).root.cavs ∧
    kTok.Row (fun k => w.heap.size ≤ k) w' B m d (o.getD Bun.zero).dis ∧ Below w.heap.size w w'
def TRd (w : World) (o : Option Tok) (k : Nat) (e : Ending) (w' : World) : Prop :=
  ∃ A n c, e = .returned (.tuple #[tokV (o.getD Tok.zero) A n c, .int .i64 (k : Int)]) ∧ kCav.Row (fun k => w.heap.size ≤ k) w' A n c (o.getD Tok.zero).cavs ∧ Below w.heap.size w w'
theorem brd_no {w W : World} (hB : Below w.heap.size w W) : BRd w none 7 (.returned (.tuple #[.agg bunZ, .int .i64 7])) W :=
  ⟨none, 0, 0, none, 0, 0, rfl, .nil _ _ _ _ _ (Nat.zero_le _), .nil _ _ _ _ _ (Nat.zero_le _), hB⟩
theorem trd_no {w W : World} (k : Nat) (i : Int) (hi : i = (k : Int)) (hB : Below w.heap.size w W) : TRd w none k (.returned (.tuple #[.agg tokZ, .int .i64 i])) W := by
  subst hi
  exact ⟨none, 0, 0, rfl, .nil _ _ _ _ _ (Nat.zero_le _), hB⟩
/-- What lies at a number. -/
def ostr (l : List Out) (n : Int) : Option Out := if 0 ≤ n then l[n.toNat]? else none
theorem ostr_none {l : List Out} {n : Int} (h : ostr l n = none) : n < 0 ∨ (l.length : Int) ≤ n := by
  unfold ostr at h
  split at h
  · have := List.getElem?_eq_none_iff.1 h; omega
  · omega
theorem ostr_some {l : List Out} {n : Int} {o : Out} (h : ostr l n = some o) : ∃ k : Nat, n = k ∧ l[k]? = some o := by
  unfold ostr at h
  split at h
  · exact ⟨n.toNat, by omega, h⟩
  · cases h
def bVal (l : List Out) (n : Int) : Option Bun := (ostr l n).bind fun o => if o.whole then bvalD (byt o.bytes) else none
def bCode (l : List Out) (n : Int) : Nat := match ostr l n with | some o => if o.whole then bcodeD (byt o.bytes) else 7 | none => 7
def tVal (l : List Out) (n : Int) : Option Tok := (ostr l n).bind fun o => if o.whole then none else pdec (byt o.bytes)
def tCode (l : List Out) (n : Int) : Nat := match ostr l n with | some o => if o.whole then 7 else (if (pdec (byt o.bytes)).isSome then 0 else 2) | none => 7
theorem row_past {α : Type} {d : Kd α} {B : Nat} {w : World} {A : Option Addr} {n c : Nat} {xs : List α} (h : d.Row (fun k => B ≤ k) w A n c xs) {q : Nat} (hq : q < B) (C : Array Value) : d.Row (fun k => B ≤ k) (w.setRow q C) A n c xs :=
  h.keep fun k hk _ => heap_setRow_far _ _ _ (by omega)
theorem tcode_eq (o : Option Tok) : ((if o.isSome then 0 else 2 : Nat) : Int) = if o.isSome then 0 else 2 := by split <;> rfl
set_option maxRecDepth 100000 in
set_option maxHeartbeats 600000 in
theorem c_sreadB (base : Nat) (w : World) (g : Nat) (v : Value) (l : List Out) (n : Int) (h : StoreAt base w g v l) (hn : l.length ≤ 1099511627776) (hsz : ∀ o ∈ l, o.bytes.size ≤ 1000000) :
    Calls Tryd.prog 141 #[.pointer (some ⟨g, 0, none⟩), .int .i64 n, .bool true, .func (.func 142) #[] #[]] w (BRd w (bVal l n) (bCode l n)) := by
  have H := hide h
  have HN := hide hn
  have HSZ := hide hsz
  clear h hn hsz
  cases ho : ostr l n with
  | none =>
    have HV : Hid (bVal l n = none) := hide (by rw [bVal, ho]; rfl)
    have HC : Hid (bCode l n = 7) := hide (by rw [bCode, ho])
    have HX := hide (ostr_none ho)
    clear ho
    go_enter Tryd.func141, Tryd.ntmps141
    go_wp2_with fail
    refine (c_sget_out base _ g v l n (H.out.below (below1 _ _)) HN.out HX.out).mono ?_
    rintro e w1 ⟨rfl, b1⟩
    have HB1 := hide (bnext (below1 _ _) b1)
    have hz1 : row? w1 w.heap.size = some bunZ := row_of ((b1.block w.heap.size (by simp)).trans (heap_alloc_new _ _))
    have hl1 : w.heap.size < w1.heap.size := by have := b1.size; simp only [World.size_alloc] at this; omega
    have hl1' : w.heap.size < w1.heap.size + 1 := by omega
    clear b1
    go_wp2_with fail
    exact bodyPost_ret (v := .tuple #[.agg bunZ, .int .i64 7]) (by simp [results, Tryd.results141, go_sem, hz1, hl1, hl1']) rfl (by
      rw [HV.out, HC.out]
      exact brd_no (by repeat (first | exact HB1.out | refine Below.alloc ?_ (by first | omega | (simp; omega)) _ | refine bsetRow ?_ (by omega) _)))
  | some o =>
    obtain ⟨k, hk, hlk⟩ := ostr_some ho
    have HLK := hide hlk
    have HSB := hide (HSZ.out o (List.mem_of_getElem? hlk))
    have HK := hide hk
    clear hlk hk
    cases hw : o.whole with
    | false =>
      have HV : Hid (bVal l n = none) := hide (by rw [bVal, ho, Option.bind_some, hw]; rfl)
      have HC : Hid (bCode l n = 7) := hide (by rw [bCode, ho]; simp [hw])
      have HW := hide hw
      clear ho hw
      go_enter Tryd.func141, Tryd.ntmps141
      go_wp2_with fail
      refine (c_sget_in base _ g v l n k o (H.out.below (below1 _ _)) HK.out HLK.out).mono ?_
      rintro e w1 ⟨rfl, b1⟩
      rw [HW.out]
      have HB1 := hide (bnext (below1 _ _) b1)
      have hz1 : row? w1 w.heap.size = some bunZ := row_of ((b1.block w.heap.size (by simp)).trans (heap_alloc_new _ _))
      have hl1 : w.heap.size < w1.heap.size := by have := b1.size; simp only [World.size_alloc] at this; omega
      have hl1' : w.heap.size < w1.heap.size + 1 := by omega
      clear b1
      go_wp2_with fail
      exact bodyPost_ret (v := .tuple #[.agg bunZ, .int .i64 7]) (by simp [results, Tryd.results141, go_sem, hz1, hl1, hl1']) rfl (by
        rw [HV.out, HC.out]
        exact brd_no (by repeat (first | exact HB1.out | refine Below.alloc ?_ (by first | omega | (simp; omega)) _ | refine bsetRow ?_ (by omega) _)))
    | true =>
      have HV : Hid (bVal l n = bvalD (byt o.bytes)) := hide (by rw [bVal, ho, Option.bind_some, hw]; rfl)
      have HC : Hid (bCode l n = bcodeD (byt o.bytes)) := hide (by rw [bCode, ho]; simp [hw])
      have HW := hide hw
      clear ho hw
      go_enter Tryd.func141, Tryd.ntmps141
      go_wp2_with fail
      refine (c_sget_in base _ g v l n k o (H.out.below (below1 _ _)) HK.out HLK.out).mono ?_
      rintro e w1 ⟨rfl, b1⟩
      rw [HW.out]
      have HB1 := hide (bnext (below1 _ _) b1)
      have hz1 : row? w1 w.heap.size = some bunZ := row_of ((b1.block w.heap.size (by simp)).trans (heap_alloc_new _ _))
      have hl1 : w.heap.size < w1.heap.size := by have := b1.size; simp only [World.size_alloc] at this; omega
      clear b1
      go_wp2_with (refine at_tobytes (P := Tryd.prog) 9 22 o.bytes rfl Tryd.underlying9 Tryd.underlying22 Tryd.underlying5 ?_ (w1.heap.size + 1) (by simp) ?_)
      · have := HSB.out; omega
      intro c4 w4 hr4 b4 hl4
      have HR4 := hide hr4
      have HB4 := hide ((below1 w1 (.cells #[.string o.bytes, .bool true, .bool o.pub] 93)).trans (b4.mono (Nat.le_succ _)))
      clear hr4 b4
      go_wp2_with fail
      refine (c_bdecode _ _ c4 _ _ w4 HR4.out).mono ?_
      rintro e w5 ⟨A5, n5, c5, B5, m5, d5, rfl, hr5, hs5, b5⟩
      rw [← HV.out] at hr5 hs5 ⊢
      rw [← HC.out]
      obtain ⟨y, hy⟩ : ∃ y, y = (bVal l n).getD Bun.zero := ⟨_, rfl⟩
      rw [← hy] at hr5 hs5 ⊢
      have HY := hide hy
      have HR5 := hide hr5
      have HS5 := hide hs5
      have hz5 : row? w5 w.heap.size = some bunZ := by
        unfold row? at hz1 ⊢
        rw [b5.block _ (by omega), HB4.out.block _ hl1]
        exact hz1
      have hl5 := b5.size
      have HB5 := hide (HB1.out.trans ((HB4.out.mono HB1.out.size).trans (b5.mono (by omega))))
      have hsz4 : w.heap.size < w4.heap.size := by omega
      clear hr5 b5 hy hz1 hs5
      go_wp2_with fail
      exact bodyPost_ret (v := .tuple #[.agg (bunA y A5 n5 c5 B5 m5 d5), .int .i64 (bCode l n : Int)]) (by simp [results, Tryd.results141, go_sem, hz5]) rfl (by
        unfold BRd
        rw [← HY.out]
        exact ⟨A5, n5, c5, B5, m5, d5, rfl, (row_past HR5.out (by omega) _).more (fun k hk => by omega), (row_past HS5.out (by omega) _).more (fun k hk => by omega), bsetRow HB5.out (Nat.le_refl _) _⟩)
set_option maxRecDepth 100000 in
set_option maxHeartbeats 600000 in
theorem c_sreadT (base : Nat) (w : World) (g : Nat) (v : Value) (l : List Out) (n : Int) (h : StoreAt base w g v l) (hn : l.length ≤ 1099511627776) (hsz : ∀ o ∈ l, o.bytes.size ≤ 1000000) :
    Calls Tryd.prog 139 #[.pointer (some ⟨g, 0, none⟩), .int .i64 n, .bool false, .func (.func 140) #[] #[]] w (TRd w (tVal l n) (tCode l n)) := by
  have H := hide h
  have HN := hide hn
  have HSZ := hide hsz
  clear h hn hsz
  cases ho : ostr l n with
  | none =>
    have HV : Hid (tVal l n = none) := hide (by rw [tVal, ho]; rfl)
    have HC : Hid (tCode l n = 7) := hide (by rw [tCode, ho])
    have HX := hide (ostr_none ho)
    clear ho
    go_enter Tryd.func139, Tryd.ntmps139
    go_wp2_with fail
    refine (c_sget_out base _ g v l n (H.out.below (below1 _ _)) HN.out HX.out).mono ?_
    rintro e w1 ⟨rfl, b1⟩
    have HB1 := hide (bnext (below1 _ _) b1)
    have hz1 : row? w1 w.heap.size = some tokZ := row_of ((b1.block w.heap.size (by simp)).trans (heap_alloc_new _ _))
    have hl1 : w.heap.size < w1.heap.size := by have := b1.size; simp only [World.size_alloc] at this; omega
    have hl1' : w.heap.size < w1.heap.size + 1 := by omega
    clear b1
    go_wp2_with fail
    exact bodyPost_ret (v := .tuple #[.agg tokZ, .int .i64 7]) (by simp [results, Tryd.results139, go_sem, hz1, hl1, hl1']) rfl (by
      rw [HV.out, HC.out]
      exact trd_no 7 7 rfl (by repeat (first | exact HB1.out | refine Below.alloc ?_ (by first | omega | (simp; omega)) _ | refine bsetRow ?_ (by omega) _)))
  | some o =>
    obtain ⟨k, hk, hlk⟩ := ostr_some ho
    have HLK := hide hlk
    have HSB := hide (HSZ.out o (List.mem_of_getElem? hlk))
    have HK := hide hk
    clear hlk hk
    cases hw : o.whole with
    | true =>
      have HV : Hid (tVal l n = none) := hide (by rw [tVal, ho, Option.bind_some, hw]; rfl)
      have HC : Hid (tCode l n = 7) := hide (by rw [tCode, ho]; simp [hw])
      have HW := hide hw
      clear ho hw
      go_enter Tryd.func139, Tryd.ntmps139
      go_wp2_with fail
      refine (c_sget_in base _ g v l n k o (H.out.below (below1 _ _)) HK.out HLK.out).mono ?_
      rintro e w1 ⟨rfl, b1⟩
      rw [HW.out]
      have HB1 := hide (bnext (below1 _ _) b1)
      have hz1 : row? w1 w.heap.size = some tokZ := row_of ((b1.block w.heap.size (by simp)).trans (heap_alloc_new _ _))
      have hl1 : w.heap.size < w1.heap.size := by have := b1.size; simp only [World.size_alloc] at this; omega
      have hl1' : w.heap.size < w1.heap.size + 1 := by omega
      clear b1
      go_wp2_with fail
      exact bodyPost_ret (v := .tuple #[.agg tokZ, .int .i64 7]) (by simp [results, Tryd.results139, go_sem, hz1, hl1, hl1']) rfl (by
        rw [HV.out, HC.out]
        exact trd_no 7 7 rfl (by repeat (first | exact HB1.out | refine Below.alloc ?_ (by first | omega | (simp; omega)) _ | refine bsetRow ?_ (by omega) _)))
    | false =>
      have HV : Hid (tVal l n = pdec (byt o.bytes)) := hide (by rw [tVal, ho, Option.bind_some, hw]; rfl)
      have HC : Hid (tCode l n = if (pdec (byt o.bytes)).isSome then 0 else 2) := hide (by rw [tCode, ho]; simp [hw])
      have HW := hide hw
      clear ho hw
      go_enter Tryd.func139, Tryd.ntmps139
      go_wp2_with fail
      refine (c_sget_in base _ g v l n k o (H.out.below (below1 _ _)) HK.out HLK.out).mono ?_
      rintro e w1 ⟨rfl, b1⟩
      rw [HW.out]
      have HB1 := hide (bnext (below1 _ _) b1)
      have hz1 : row? w1 w.heap.size = some tokZ := row_of ((b1.block w.heap.size (by simp)).trans (heap_alloc_new _ _))
      have hl1 : w.heap.size < w1.heap.size := by have := b1.size; simp only [World.size_alloc] at this; omega
      clear b1
      go_wp2_with (refine at_tobytes (P := Tryd.prog) 9 22 o.bytes rfl Tryd.underlying9 Tryd.underlying22 Tryd.underlying5 ?_ (w1.heap.size + 1) (by simp) ?_)
      · have := HSB.out; omega
      intro c4 w4 hr4 b4 hl4
      have HR4 := hide hr4
      have HB4 := hide ((below1 w1 (.cells #[.string o.bytes, .bool false, .bool o.pub] 93)).trans (b4.mono (Nat.le_succ _)))
      clear hr4 b4
      go_wp2_with fail
      refine (c_decode _ _ c4 _ _ w4 HR4.out (by have := HSB.out; omega)).mono ?_
      rintro e w5 ⟨A5, n5, c5, rfl, ho5, b5⟩
      have hr5 := (own_row_of ho5).more (ok' := fun k => w4.heap.size ≤ k) fun k hk => by
        rcases hk with hk | hk
        · exact hk.elim
        · exact (ho5.base_le k hk.symm).1
      rw [← tcode_eq, ← HC.out]
      rw [← HV.out] at hr5 ⊢
      obtain ⟨y, hy⟩ : ∃ y, y = (tVal l n).getD Tok.zero := ⟨_, rfl⟩
      rw [← hy] at hr5 ⊢
      have HY := hide hy
      have HR5 := hide hr5
      have hz5 : row? w5 w.heap.size = some tokZ := by
        unfold row? at hz1 ⊢
        rw [b5.block _ (by omega), HB4.out.block _ hl1]
        exact hz1
      have hl5 := b5.size
      have HB5 := hide (HB1.out.trans ((HB4.out.mono HB1.out.size).trans (b5.mono (by omega))))
      have hsz4 : w.heap.size < w4.heap.size := by omega
      clear hr5 b5 hy hz1 ho5
      go_wp2_with fail
      exact bodyPost_ret (v := .tuple #[.agg (tokA y A5 n5 c5), .int .i64 (tCode l n : Int)]) (by simp [results, Tryd.results139, go_sem, hz5]) rfl (by
        unfold TRd
        rw [← HY.out]
        exact ⟨A5, n5, c5, rfl, (row_past HR5.out (by omega) _).more (fun k hk => by omega), bsetRow HB5.out (Nat.le_refl _) _⟩)
set_option maxRecDepth 100000 in
set_option maxHeartbeats 600000 in
theorem c_sB (base : Nat) (w : World) (g : Nat) (v : Value) (l : List Out) (n : Int) (h : StoreAt base w g v l) (hn : l.length ≤ 1099511627776) (hsz : ∀ o ∈ l, o.bytes.size ≤ 1000000) :
    Calls Tryd.prog 132 #[.pointer (some ⟨g, 0, none⟩), .int .i64 n] w (BRd w (bVal l n) (bCode l n)) := by
  have H := hide h
  have HN := hide hn
  have HSZ := hide hsz
  clear h hn hsz
  obtain ⟨y, hy⟩ : ∃ y, y = (bVal l n).getD Bun.zero := ⟨_, rfl⟩
  have HY := hide hy
  go_enter Tryd.func132, Tryd.ntmps132
  go_wp2_with fail
  refine (c_sreadB base _ g v l n (H.out.below (below1 _ _)) HN.out HSZ.out).mono ?_
  rintro e w5 ⟨A5, n5, c5, B5, m5, d5, rfl, hr5, hs5, b5⟩
  rw [← hy] at hr5 hs5 ⊢
  have HR5 := hide hr5
  have HS5 := hide hs5
  have hz5 : row? w5 w.heap.size = some bunZ := row_of ((b5.block w.heap.size (by simp)).trans (heap_alloc_new _ _))
  have HB5 := hide (bnext (below1 _ _) b5)
  clear hr5 b5 hy hs5
  go_wp2_with fail
  exact bodyPost_ret (v := .tuple #[.agg (bunA y A5 n5 c5 B5 m5 d5), .int .i64 (bCode l n : Int)]) (by simp [results, Tryd.results132, go_sem, hz5]) rfl (by
    unfold BRd
    rw [← HY.out]
    exact ⟨A5, n5, c5, B5, m5, d5, rfl, (row_past HR5.out (by simp) _).more (fun k hk => by simp only [World.size_alloc] at hk; omega), (row_past HS5.out (by simp) _).more (fun k hk => by simp only [World.size_alloc] at hk; omega), bsetRow HB5.out (Nat.le_refl _) _⟩)
set_option maxRecDepth 100000 in
set_option maxHeartbeats 600000 in
theorem c_sT (base : Nat) (w : World) (g : Nat) (v : Value) (l : List Out) (n : Int) (h : StoreAt base w g v l) (hn : l.length ≤ 1099511627776) (hsz : ∀ o ∈ l, o.bytes.size ≤ 1000000) :
    Calls Tryd.prog 131 #[.pointer (some ⟨g, 0, none⟩), .int .i64 n] w (TRd w (tVal l n) (tCode l n)) := by
  have H := hide h
  have HN := hide hn
  have HSZ := hide hsz
  clear h hn hsz
  obtain ⟨y, hy⟩ : ∃ y, y = (tVal l n).getD Tok.zero := ⟨_, rfl⟩
  have HY := hide hy
  go_enter Tryd.func131, Tryd.ntmps131
  go_wp2_with fail
  refine (c_sreadT base _ g v l n (H.out.below (below1 _ _)) HN.out HSZ.out).mono ?_
  rintro e w5 ⟨A5, n5, c5, rfl, hr5, b5⟩
  rw [← hy] at hr5 ⊢
  have HR5 := hide hr5
  skip
  have hz5 : row? w5 w.heap.size = some tokZ := row_of ((b5.block w.heap.size (by simp)).trans (heap_alloc_new _ _))
  have HB5 := hide (bnext (below1 _ _) b5)
  clear hr5 b5 hy 
  go_wp2_with fail
  exact bodyPost_ret (v := .tuple #[.agg (tokA y A5 n5 c5), .int .i64 (tCode l n : Int)]) (by simp [results, Tryd.results131, go_sem, hz5]) rfl (by
    unfold TRd
    rw [← HY.out]
    exact ⟨A5, n5, c5, rfl, (row_past HR5.out (by simp) _).more (fun k hk => by simp only [World.size_alloc] at hk; omega), bsetRow HB5.out (Nat.le_refl _) _⟩)
end Go.Proofs.YtdkeflhgengblaaDoor
namespace Go.Proofs.YtdkeflhgengblaaDoor
open Go.RowKit
attribute [local go_sem ↓] ld8 ld32 ld64 ld73
attribute [local go_sem] run_ldAgg run_storeAgg agg_alloc_at agg_alloc_past agg_drew agg_setCell row_alloc_at row_alloc_past row_drew setRow_alloc_at setRow_alloc_past setRow_drew agg_setRow_at agg_setRow_far cell_setRow_at cell_setRow_far row_setRow_far size_setRow s8C_size s8C_part s8C_one s8C_splice0 s8C_ne dgC_size dgC_72 dgC_part dgC_h dgC_r dgC_splice_h dgC_set dgC_one dgC_splice0 dgC_ne zero_dg
attribute [local go_sem] tgC_size tgC_one tgC_part tgC_splice tgC_splice_any zero_tg tgC_ne

theorem bytes_info : (Tryd.prog.info? 22).map (·.size) = some kRow8.sz := by kernel_rfl
theorem flat_take_succ {l : List (List UInt8)} {k : Nat} {x : List UInt8} (h : l[k]? = some x) : (l.take (k + 1)).flatten = (l.take k).flatten ++ x := by
  rw [List.take_add_one, h]; simp
theorem flat_take_le (l : List (List UInt8)) (k : Nat) : (l.take k).flatten.length ≤ l.flatten.length := by
  have := congrArg List.length (show l.flatten = (l.take k).flatten ++ (l.drop k).flatten by rw [← List.flatten_append, List.take_append_drop])
  rw [List.length_append] at this
  omega
theorem flat_part {l : List (List UInt8)} {k : Nat} {x : List UInt8} (h : l[k]? = some x) : (l.take k).flatten.length + x.length ≤ l.flatten.length := by
  have := flat_take_le l (k + 1)
  rw [flat_take_succ h, List.length_append] at this
  exact this
set_option maxRecDepth 100000 in
set_option maxHeartbeats 1600000 in
theorem c_digof (A : Option Addr) (n c : Nat) (l : List (List UInt8)) (ok : Nat → Prop) (w : World) (hR : kRow8.Row ok w A n c l) (hP : PrimesAt w) (hn : l.flatten.length < 1152921504606846976) :
    Calls Tryd.prog 99 #[.slice A n c] w fun e w' => e = .returned (tgV (shaT l.flatten)) ∧ Below w.heap.size w w' := by
  have HR := hide hR.bound
  have HP := hide hP
  have HN := hide hn
  have hll := hR.1
  have hn63 : n ≤ 9223372036854775807 := Nat.le_trans hR.2.1 hR.2.2.1
  clear hR hP hn
  go_enter Tryd.func99, Tryd.ntmps99
  go_wp2_with fail
  obtain ⟨W1, hW1⟩ : ∃ W1, W1 = w.alloc (.cells (tgC Tg.zero) 29) := ⟨_, rfl⟩
  rw [← hW1]
  have hB1 : Below w.heap.size w W1 := by rw [hW1]; exact below1 _ _
  have hs1 : W1.heap.size = w.heap.size + 1 := by rw [hW1]; simp only [World.size_alloc]
  have hz1 : W1.heap[w.heap.size]? = some (.cells (tgC Tg.zero) 29) := by rw [hW1]; exact heap_alloc_new _ _
  clear hW1
  refine (c_dnew W1).mono ?_
  rintro e w2 ⟨g, rfl, hg, hd2, b2⟩
  have HD2 := hide hd2
  have HB2 := hide (hB1.trans (b2.mono hB1.size))
  have HZ2 := hide ((b2.block w.heap.size (by omega)).trans hz1)
  have hg2 : w.heap.size + 1 ≤ g := by omega
  have HLL := hide hll
  clear hd2 b2 hB1 hs1 hz1 hg hll
  go_wp2_with fail
  go_loopw [9] (fun i wr => ∃ (k : Nat), k ≤ n ∧ i = .int .i64 (k : Int) ∧ Hid (DigAt wr g (l.take k).flatten) ∧ Hid (wr.heap[w.heap.size]? = some (.cells (tgC Tg.zero) 29)) ∧ Hid (Below w.heap.size w wr)) (fun i _ => n - (intOf i).toNat)
  case atStart => exact ⟨0, Nat.zero_le _, rfl, HD2, HZ2, HB2⟩
  case round =>
    obtain ⟨k, hk, rfl, HD, HZ, HB⟩ := hrel
    have hwr := HB.out.size
    have hzs := (Array.getElem?_eq_some_iff.1 HZ.out).1
    have hgs := HD.out.lt
    by_cases hlt : k < n
    · obtain ⟨x, hx⟩ : ∃ x, l[k]? = some x := ⟨_, List.getElem?_eq_getElem (by have := HLL.out; omega)⟩
      obtain ⟨q, o, cs, hix, -, hbl, hKx, hra⟩ := (HR.out.below HB.out).index (P := Tryd.prog) Tryd.underlying23 (E := 22) bytes_info hx
      obtain ⟨A2, n2, c2, rfl, hr2⟩ := hKx
      have HR2 := hide hr2
      have hce : wr.cell? ⟨q, o, none⟩ = some (.slice A2 n2 c2) := by simpa using hra 0 _ rfl
      have HTK := hide (flat_take_succ hx)
      have HFP := hide (flat_part hx)
      clear hx hra hr2
      go_wp2_with fail
      refine (c_dwrite g _ x A2 n2 c2 _ wr HD.out HR2.out (fun k hk => by omega) (HP.out.below HB.out HP.out.1) (by omega) (by have := HFP.out; have := HN.out; have := HR2.out.1; omega)).mono ?_
      rintro e w3 ⟨rfl, hd3, gr3⟩
      have HD3 : Hid (DigAt w3 g (l.take (k + 1)).flatten) := hide (by rw [HTK.out]; exact hd3)
      have HB3 : Hid (Below w.heap.size w w3) := hide ⟨gr3.os.trans HB.out.os, gr3.tape.trans HB.out.tape, gr3.output.trans HB.out.output, Nat.le_trans HB.out.size gr3.size, fun j hj => (gr3.block j (Nat.lt_of_lt_of_le hj HB.out.size) (fun e => by have := Option.some.inj e; omega)).trans (HB.out.block j hj)⟩
      have HZ3 := hide ((gr3.block w.heap.size (by omega) (fun e => by have := Option.some.inj e; omega)).trans HZ.out)
      clear hd3 gr3 hix hce
      go_wp2_with fail
      go_roundw
      case rel => exact ⟨k + 1, by omega, by simp, HD3, HZ3, HB3⟩
      case measure => simp [intOf]; omega
    · obtain rfl : n = k := by omega
      go_wp2_with fail
      have hd9 := HD.out
      rw [List.take_of_length_le (show l.length ≤ n by have := HLL.out; omega)] at hd9
      refine (c_dsum g _ wr hd9 (HP.out.below HB.out HP.out.1) HN.out).mono ?_
      obtain ⟨t, htt⟩ : ∃ t, t = shaT l.flatten := ⟨_, rfl⟩
      rw [← htt]
      have HTT := hide htt
      clear htt hd9
      rintro e w9 ⟨rfl, b9⟩
      have hz9 := (b9.block _ hzs).trans HZ.out
      have hrz := row_of hz9
      have HB9 := hide (bsetRow (HB.out.trans (b9.mono hwr)) (Nat.le_refl _) (tgC t))
      have hag9 : agg? (w9.setRow w.heap.size (tgC t)) ⟨w.heap.size, 0, none⟩ 32 = some (tgC t) := (agg_setRow_at _ _ _ _ _ (by rw [hrz]; rfl) (by decide)).trans (tgC_part t)
      clear b9 hz9
      go_wp2_with fail
      exact bodyPost_ret (v := tgV t) (by simp [results, Tryd.results99, go_sem, hag9]) rfl ⟨by rw [HTT.out], HB9.out⟩
end Go.Proofs.YtdkeflhgengblaaDoor
namespace Go.Proofs.YtdkeflhgengblaaDoor
open Go.RowKit
attribute [local go_sem ↓] ld8 ld32 ld64 ld73
attribute [local go_sem] run_ldAgg run_storeAgg agg_alloc_at agg_alloc_past agg_drew agg_setCell row_alloc_at row_alloc_past row_drew setRow_alloc_at setRow_alloc_past setRow_drew agg_setRow_at agg_setRow_far cell_setRow_at cell_setRow_far row_setRow_far size_setRow s8C_size s8C_part s8C_one s8C_splice0 s8C_ne dgC_size dgC_72 dgC_part dgC_h dgC_r dgC_splice_h dgC_set dgC_one dgC_splice0 dgC_ne zero_dg
attribute [local go_sem] tgC_size tgC_one tgC_part tgC_splice tgC_splice_any zero_tg tgC_ne
attribute [local go_sem] zero_b64
/-- Bytes, the first i of them turned. -/
def xorl (K : List UInt8) (b : UInt8) (i : Nat) : List UInt8 := (K.map (· ^^^ b)).take i ++ K.drop i
section
variable {K : List UInt8} {b x : UInt8} {i n : Nat}
theorem xorl_len : (xorl K b i).length = K.length := by simp only [xorl, List.length_append, List.length_take, List.length_map, List.length_drop]; omega
theorem xorl_start : xorl K b 0 = K := by simp [xorl]
theorem xorl_end (h : K.length = n) : xorl K b n = K.map (· ^^^ b) := by
  rw [xorl, List.drop_eq_nil_of_le (by omega), List.append_nil, List.take_of_length_le (by simp; omega)]
theorem xorl_at (h : i < K.length) : (xorl K b i)[i]? = K[i]? := by
  rw [xorl, List.getElem?_append_right (by simp; omega), List.getElem?_drop]
  congr 1
  simp; omega
theorem xorl_set (h : K[i]? = some x) : (xorl K b i).set i (x ^^^ b) = xorl K b (i + 1) := by
  have hi : i < K.length := (List.getElem?_eq_some_iff.1 h).1
  apply List.ext_getElem?
  intro k
  rw [List.getElem?_set, xorl_len]
  by_cases hk : i = k
  · subst hk
    rw [if_pos rfl, if_pos hi, xorl, List.getElem?_append_left (by simp; omega), List.getElem?_take, if_pos (Nat.lt_succ_self _), List.getElem?_map, h]
    rfl
  · rw [if_neg hk, xorl, xorl]
    rcases Nat.lt_or_ge k i with h2 | h2
    · rw [List.getElem?_append_left (by simp; omega), List.getElem?_append_left (by simp; omega), List.getElem?_take, List.getElem?_take, if_pos h2, if_pos (by omega)]
    · rw [List.getElem?_append_right (by simp; omega), List.getElem?_append_right (by simp; omega), List.getElem?_drop, List.getElem?_drop]
      congr 1
      simp only [List.length_take, List.length_map]; omega
theorem row8_one {ok : Nat → Prop} {w : World} {g : Nat} {A : Option Addr} {n c : Nat} {x : List UInt8} {t : TypeId} {fr : Nat × Nat} (hg : w.heap[g]? = some (.cells #[.slice A n c] t fr)) (hr : kU8.Row ok w A n c x) (hok : ok g) : kRow8.Row ok w (some ⟨g, 0, none⟩) 1 1 [x] := by
  refine ⟨rfl, Nat.le_refl _, by decide, fun _ => ⟨g, 0, rfl, hok, (Array.getElem?_eq_some_iff.1 hg).1, fun i y hy => ?_⟩⟩
  have hi : i = 0 := by have := (List.getElem?_eq_some_iff.1 hy).1; simp at this; omega
  subst hi
  have hy' : y = x := by simpa using hy.symm
  subst hy'
  refine ⟨[.slice A n c], ⟨A, n, c, rfl, hr⟩, fun j u hu => ?_⟩
  have hj : j = 0 := by have := (List.getElem?_eq_some_iff.1 hu).1; simp at this; omega
  subst hj
  have hu' : u = .slice A n c := by simpa using hu.symm
  subst hu'
  rw [cell_of_row w _ _ _ _ _ hg]
  rfl
theorem b_xor (x b : UInt8) : bits .xor .u8 (x.toNat : Int) (b.toNat : Int) = ((x ^^^ b).toNat : Int) := u8_xor_nat _ _ x.toNat_lt b.toNat_lt
end
set_option maxRecDepth 100000 in
set_option maxHeartbeats 1600000 in
theorem c_turned0 (A : Option Addr) (n c : Nat) (key : List UInt8) (by_ : UInt8) (ok : Nat → Prop) (w : World) (hR : kU8.Row ok w A n c key) (hP : PrimesAt w) (hn : n ≤ 64) :
    Calls Tryd.prog 68 #[.slice A n c, bv by_] w fun e w' => ∃ g, e = .returned (.pointer (some ⟨g, 0, none⟩)) ∧ w.heap.size ≤ g ∧ DigAt w' g (keyX key by_) ∧ Below w.heap.size w w' := by
  have HP := hide hP
  have hp0 := hP.1
  obtain ⟨KB, hKB⟩ : ∃ KB, KB = key := ⟨_, rfl⟩
  have HKB : Hid (KB = keyB key) := hide (by rw [keyB, if_neg (by rw [hR.1]; omega), hKB])
  have HKL : Hid (KB.length ≤ 64) := hide (by rw [hKB, hR.1]; exact hn)
  have HR2 : Hid (kU8.Row (fun k => k < w.heap.size) (w.alloc (.cells (blC zb64) 153)) A n c KB) := hide (by
    rw [hKB]
    exact (row8 hR.bound (fun k _ h => h.2)).alloc _)
  have HZ2 := hide (heap_alloc_new w (.cells (blC zb64) 153))
  have HB2 := hide (below1 w (.cells (blC zb64) 153))
  obtain ⟨n2, hn2⟩ : ∃ n2, n2 = n := ⟨_, rfl⟩
  rw [← hn2] at HR2 hn ⊢
  clear hKB hR hP hn2
  go_enter Tryd.func68, Tryd.ntmps68

  -- the key's block
  have hkl : KB.length ≤ 64 := HKL.out
  obtain ⟨K, hK⟩ : ∃ K, K = KB ++ List.replicate (64 - KB.length) (0 : UInt8) := ⟨_, rfl⟩
  have hKl : K.length = 64 := by rw [hK, List.length_append, List.length_replicate]; omega
  have HKX : Hid (K.map (· ^^^ by_) = keyX key by_) := hide (by rw [hK, keyX, HKB.out])
  have HSPL : Hid (splice (blC zb64) 0 (blC (KB.take KB.length)) = blC K) := hide (by
    rw [List.take_length, blC_splice, hK]
    congr 1
    rw [List.take_zero, List.nil_append, Nat.zero_add]
    congr 1
    rw [zb64, List.drop_replicate])
  have HMIN : Hid (min n2 64 = KB.length) := hide (by have := HR2.out.1; omega)
  have HKL64 := hide hKl
  clear hK hkl hKl
  go_wp2_with ((with_reducible show wpList _ _ _ (Oper.mk (some 18) _ _ _ _ _ :: _) _ _); go_loud (refine at_copy8g (P := Tryd.prog) 5 Tryd.underlying22 (by kernel_rfl) w.heap.size 0 64 64 HR2.out rfl rfl _ _ HZ2.out KB.length HMIN.out (by rw [blC_size, Nat.zero_add]; exact HKL.out) _ HSPL.out ?_; intro w3 HZ3 hgr3))
  have HB3 : Hid (Below w.heap.size w w3) := hide ⟨hgr3.os.trans HB2.out.os, hgr3.tape.trans HB2.out.tape, hgr3.output.trans HB2.out.output, Nat.le_trans HB2.out.size hgr3.size, fun j hj => (hgr3.block j (Nat.lt_of_lt_of_le hj HB2.out.size) (fun e => by have := Option.some.inj e; omega)).trans (HB2.out.block j hj)⟩
  clear hgr3
  go_loopw [19] (fun i wr => ∃ (k : Nat), k ≤ 64 ∧ i = .int .i64 (k : Int) ∧ Hid (wr.heap[w.heap.size]? = some (.cells (blC (xorl K by_ k)) 153)) ∧ Hid (Below w.heap.size w wr)) (fun i _ => 64 - (intOf i).toNat)
  case atStart => exact ⟨0, Nat.zero_le _, rfl, hide (by rw [xorl_start]; exact HZ3.out), HB3⟩
  case round =>
    obtain ⟨k, hk, rfl, HZ, HB⟩ := hrel
    have hwr := HB.out.size
    have hzs := (Array.getElem?_eq_some_iff.1 HZ.out).1
    by_cases hlt : k < 64
    · obtain ⟨x, hx⟩ : ∃ x, K[k]? = some x := ⟨_, List.getElem?_eq_getElem (by have := HKL64.out; omega)⟩
      have hcx := (cell_of_row wr _ k _ _ _ HZ.out).trans (blC_at _ ((xorl_at (b := by_) (by have := HKL64.out; omega)).trans hx))
      have hfz := frozen_of_row wr w.heap.size k _ _ HZ.out
      have HST := hide (xorl_set (b := by_) hx)
      have hxx := b_xor x by_
      clear hx
      go_wp2_with fail
      go_roundw
      case rel =>
        refine ⟨k + 1, by omega, by simp, ?_, hide (bsetCell HB.out (Nat.le_refl _) _ _)⟩
        have := heap_setCell_at (i := k) (bv (x ^^^ by_)) HZ.out
        rw [blC_set, HST.out] at this
        exact hide this
      case measure => simp [intOf]; omega
    · obtain rfl : k = 64 := by omega
      go_wp2_with fail
      refine (c_dnew wr).mono ?_
      rintro e w5 ⟨g, rfl, hg, hd5, b5⟩
      have hz5 := (b5.block _ hzs).trans HZ.out
      rw [xorl_end (b := by_) HKL64.out, HKX.out] at hz5
      have hrow : kU8.Row (fun k => k = w.heap.size) w5 (some ⟨w.heap.size, 0, none⟩) 64 64 (keyX key by_) := by
        have := row_all (ok := fun k => k = w.heap.size) hz5 rfl (by rw [keyX_len]; decide)
        rwa [keyX_len] at this
      have HROW := hide hrow
      have HD5 := hide hd5
      have HB5 := hide (HB.out.trans (b5.mono hwr))
      have hws := HB5.out.size
      clear hz5 hrow hd5 b5
      go_wp2_with fail
      refine (c_dwrite g [] (keyX key by_) _ 64 64 _ w5 HD5.out HROW.out (fun k hk => by omega) (HP.out.below HB5.out HP.out.1) (by omega) (by simp)).mono ?_
      rintro e w6 ⟨rfl, hd6, gr6⟩
      have HD6 := hide hd6
      have HB6 : Hid (Below w.heap.size w w6) := hide ⟨gr6.os.trans HB5.out.os, gr6.tape.trans HB5.out.tape, gr6.output.trans HB5.out.output, Nat.le_trans HB5.out.size gr6.size, fun j hj => (gr6.block j (Nat.lt_of_lt_of_le hj HB5.out.size) (fun e => by have := Option.some.inj e; omega)).trans (HB5.out.block j hj)⟩
      clear hd6 gr6
      go_wp2_with fail
      go_ret
      exact ⟨g, rfl, by omega, by simpa using HD6.out, HB6.out⟩

set_option maxRecDepth 100000 in
set_option maxHeartbeats 1600000 in
theorem c_turned1 (A : Option Addr) (n c : Nat) (key : List UInt8) (by_ : UInt8) (ok : Nat → Prop) (w : World) (hR : kU8.Row ok w A n c key) (hP : PrimesAt w) (hn : 64 < n) (hn2 : n < 1152921504606846976) :
    Calls Tryd.prog 68 #[.slice A n c, bv by_] w fun e w' => ∃ g, e = .returned (.pointer (some ⟨g, 0, none⟩)) ∧ w.heap.size ≤ g ∧ DigAt w' g (keyX key by_) ∧ Below w.heap.size w w' := by
  have HP := hide hP
  have HR := hide hR
  have hp0 := hP.1
  have HN := hide hn2
  clear hR hP hn2
  go_enter Tryd.func68, Tryd.ntmps68
  go_wp2_with fail
  obtain ⟨W2, hW2⟩ : ∃ W2, W2 = (w.alloc (.cells (blC zb64) 153)).alloc (.cells #[.slice A n c] 22) := ⟨_, rfl⟩
  rw [← hW2]
  have hB0 : Below w.heap.size w W2 := by rw [hW2]; exact below2 _ _ _
  have hs0 : W2.heap.size = w.heap.size + 1 + 1 := by rw [hW2]; simp only [World.size_alloc]
  have hz0 : W2.heap[w.heap.size]? = some (.cells (blC zb64) 153) := by
    rw [hW2, Below.heap_alloc _ _ _ (by simp only [World.size_alloc]; omega)]
    exact heap_alloc_new _ _
  have hc0 : W2.heap[w.heap.size + 1]? = some (.cells #[.slice A n c] 22) := by
    rw [hW2]
    have := heap_alloc_new (w.alloc (.cells (blC zb64) 153)) (.cells #[.slice A n c] 22)
    simpa only [World.size_alloc] using this
  clear hW2
  have hr0 : kRow8.Row (fun _ => True) W2 (some ⟨w.heap.size + 1, 0, none⟩) 1 1 [key] := row8_one hc0 (row8 (HR.out.below hB0) (fun _ _ _ => trivial)) trivial
  have hP2 := HP.out.below hB0 HP.out.1
  have hkl : key.length = n := HR.out.1
  refine (c_digof _ 1 1 [key] _ W2 hr0 hP2 (by have := HN.out; simp; omega)).mono ?_
  rintro e w2 ⟨rfl, b2⟩
  rw [show [key].flatten = key by simp]
  obtain ⟨t, htt⟩ : ∃ t, t = shaT key := ⟨_, rfl⟩
  rw [← htt]
  obtain ⟨KB, hKB⟩ : ∃ KB, KB = t.l := ⟨_, rfl⟩
  have HKB : Hid (KB = keyB key) := hide (by rw [keyB, if_pos (by rw [hkl]; exact hn), hKB, htt]; rfl)
  have HKL : Hid (KB.length ≤ 64) := hide (by rw [hKB, t.len]; decide)
  have hsz2 := b2.size
  have HZ2 : Hid ((w2.alloc (.cells (tgC t) 29)).heap[w.heap.size]? = some (.cells (blC zb64) 153)) := hide ((Below.heap_alloc _ _ _ (by omega)).trans ((b2.block _ (by omega)).trans hz0))
  have HB2 : Hid (Below w.heap.size w (w2.alloc (.cells (tgC t) 29))) := hide (hB0.trans ((b2.mono hB0.size).trans ((below1 w2 _).mono (by omega))))
  have HR2 : Hid (kU8.Row (fun k => w.heap.size < k) (w2.alloc (.cells (tgC t) 29)) (some ⟨w2.heap.size, 0, none⟩) 32 32 KB) := hide (by
    have hq : (w2.alloc (.cells (tgC t) 29)).heap[w2.heap.size]? = some (.cells (blC KB) 29) := by rw [heap_alloc_new, hKB, tgC_bl]
    have hl : KB.length = 32 := by rw [hKB, t.len]
    have := row_all (ok := fun k => w.heap.size < k) hq (by omega) (by rw [hl]; decide)
    rwa [hl] at this)
  have hgw : w.heap.size < w2.heap.size := by omega
  clear hKB htt hsz2 hr0 hP2 hB0 hs0 hz0 hc0 b2 hkl

  -- the key's block
  have hkl : KB.length ≤ 64 := HKL.out
  obtain ⟨K, hK⟩ : ∃ K, K = KB ++ List.replicate (64 - KB.length) (0 : UInt8) := ⟨_, rfl⟩
  have hKl : K.length = 64 := by rw [hK, List.length_append, List.length_replicate]; omega
  have HKX : Hid (K.map (· ^^^ by_) = keyX key by_) := hide (by rw [hK, keyX, HKB.out])
  have HSPL : Hid (splice (blC zb64) 0 (blC (KB.take KB.length)) = blC K) := hide (by
    rw [List.take_length, blC_splice, hK]
    congr 1
    rw [List.take_zero, List.nil_append, Nat.zero_add]
    congr 1
    rw [zb64, List.drop_replicate])
  have HMIN : Hid (min 32 64 = KB.length) := hide (by have := HR2.out.1; omega)
  have HKL64 := hide hKl
  clear hK hkl hKl
  go_wp2_with ((with_reducible show wpList _ _ _ (Oper.mk (some 18) _ _ _ _ _ :: _) _ _); go_loud (refine at_copy8g (P := Tryd.prog) 5 Tryd.underlying22 (by kernel_rfl) w.heap.size 0 64 64 HR2.out rfl rfl _ _ HZ2.out KB.length HMIN.out (by rw [blC_size, Nat.zero_add]; exact HKL.out) _ HSPL.out ?_; intro w3 HZ3 hgr3))
  have HB3 : Hid (Below w.heap.size w w3) := hide ⟨hgr3.os.trans HB2.out.os, hgr3.tape.trans HB2.out.tape, hgr3.output.trans HB2.out.output, Nat.le_trans HB2.out.size hgr3.size, fun j hj => (hgr3.block j (Nat.lt_of_lt_of_le hj HB2.out.size) (fun e => by have := Option.some.inj e; omega)).trans (HB2.out.block j hj)⟩
  clear hgr3
  go_loopw [19] (fun i wr => ∃ (k : Nat), k ≤ 64 ∧ i = .int .i64 (k : Int) ∧ Hid (wr.heap[w.heap.size]? = some (.cells (blC (xorl K by_ k)) 153)) ∧ Hid (Below w.heap.size w wr)) (fun i _ => 64 - (intOf i).toNat)
  case atStart => exact ⟨0, Nat.zero_le _, rfl, hide (by rw [xorl_start]; exact HZ3.out), HB3⟩
  case round =>
    obtain ⟨k, hk, rfl, HZ, HB⟩ := hrel
    have hwr := HB.out.size
    have hzs := (Array.getElem?_eq_some_iff.1 HZ.out).1
    by_cases hlt : k < 64
    · obtain ⟨x, hx⟩ : ∃ x, K[k]? = some x := ⟨_, List.getElem?_eq_getElem (by have := HKL64.out; omega)⟩
      have hcx := (cell_of_row wr _ k _ _ _ HZ.out).trans (blC_at _ ((xorl_at (b := by_) (by have := HKL64.out; omega)).trans hx))
      have hfz := frozen_of_row wr w.heap.size k _ _ HZ.out
      have HST := hide (xorl_set (b := by_) hx)
      have hxx := b_xor x by_
      clear hx
      go_wp2_with fail
      go_roundw
      case rel =>
        refine ⟨k + 1, by omega, by simp, ?_, hide (bsetCell HB.out (Nat.le_refl _) _ _)⟩
        have := heap_setCell_at (i := k) (bv (x ^^^ by_)) HZ.out
        rw [blC_set, HST.out] at this
        exact hide this
      case measure => simp [intOf]; omega
    · obtain rfl : k = 64 := by omega
      go_wp2_with fail
      refine (c_dnew wr).mono ?_
      rintro e w5 ⟨g, rfl, hg, hd5, b5⟩
      have hz5 := (b5.block _ hzs).trans HZ.out
      rw [xorl_end (b := by_) HKL64.out, HKX.out] at hz5
      have hrow : kU8.Row (fun k => k = w.heap.size) w5 (some ⟨w.heap.size, 0, none⟩) 64 64 (keyX key by_) := by
        have := row_all (ok := fun k => k = w.heap.size) hz5 rfl (by rw [keyX_len]; decide)
        rwa [keyX_len] at this
      have HROW := hide hrow
      have HD5 := hide hd5
      have HB5 := hide (HB.out.trans (b5.mono hwr))
      have hws := HB5.out.size
      clear hz5 hrow hd5 b5
      go_wp2_with fail
      refine (c_dwrite g [] (keyX key by_) _ 64 64 _ w5 HD5.out HROW.out (fun k hk => by omega) (HP.out.below HB5.out HP.out.1) (by omega) (by simp)).mono ?_
      rintro e w6 ⟨rfl, hd6, gr6⟩
      have HD6 := hide hd6
      have HB6 : Hid (Below w.heap.size w w6) := hide ⟨gr6.os.trans HB5.out.os, gr6.tape.trans HB5.out.tape, gr6.output.trans HB5.out.output, Nat.le_trans HB5.out.size gr6.size, fun j hj => (gr6.block j (Nat.lt_of_lt_of_le hj HB5.out.size) (fun e => by have := Option.some.inj e; omega)).trans (HB5.out.block j hj)⟩
      clear hd6 gr6
      go_wp2_with fail
      go_ret
      exact ⟨g, rfl, by omega, by simpa using HD6.out, HB6.out⟩
end Go.Proofs.YtdkeflhgengblaaDoor
namespace Go.Proofs.YtdkeflhgengblaaDoor
open Go.RowKit
attribute [local go_sem ↓] ld8 ld32 ld64 ld73
attribute [local go_sem] run_ldAgg run_storeAgg agg_alloc_at agg_alloc_past agg_drew agg_setCell row_alloc_at row_alloc_past row_drew setRow_alloc_at setRow_alloc_past setRow_drew agg_setRow_at agg_setRow_far cell_setRow_at cell_setRow_far row_setRow_far size_setRow s8C_size s8C_part s8C_one s8C_splice0 s8C_ne dgC_size dgC_72 dgC_part dgC_h dgC_r dgC_splice_h dgC_set dgC_one dgC_splice0 dgC_ne zero_dg
attribute [local go_sem] tgC_size tgC_one tgC_part tgC_splice tgC_splice_any zero_tg tgC_ne

theorem c_turned (A : Option Addr) (n c : Nat) (key : List UInt8) (by_ : UInt8) (ok : Nat → Prop) (w : World) (hR : kU8.Row ok w A n c key) (hP : PrimesAt w) (hn2 : n < 1152921504606846976) :
    Calls Tryd.prog 68 #[.slice A n c, bv by_] w fun e w' => ∃ g, e = .returned (.pointer (some ⟨g, 0, none⟩)) ∧ w.heap.size ≤ g ∧ DigAt w' g (keyX key by_) ∧ Below w.heap.size w w' := by
  by_cases h : n ≤ 64
  · exact c_turned0 A n c key by_ ok w hR hP h
  · exact c_turned1 A n c key by_ ok w hR hP (by omega) hn2
/-- A mac to which bytes were written; its blocks are from base on. -/
def MacAt (w : World) (base m : Nat) (key xs : List UInt8) : Prop :=
  ∃ gi go, w.heap[m]? = some (.cells #[.pointer (some ⟨gi, 0, none⟩), .pointer (some ⟨go, 0, none⟩)] 123) ∧ DigAt w gi (keyX key 54 ++ xs) ∧ DigAt w go (keyX key 92) ∧ gi ≠ go ∧ m ≠ gi ∧ m ≠ go ∧ base ≤ m ∧ base ≤ gi ∧ base ≤ go
theorem MacAt.ext {w w' : World} {base m : Nat} {key xs : List UInt8} (h : MacAt w base m key xs) (hb : Below w.heap.size w w') : MacAt w' base m key xs :=
  let ⟨gi, go, h1, h2, h3, h4⟩ := h; ⟨gi, go, (hb.block m (Array.getElem?_eq_some_iff.1 h1).1).trans h1, h2.ext hb, h3.ext hb, h4⟩
theorem below_of_grown {B g : Nat} {w w' : World} (h : w.grownBy w' (some g)) (hB : B ≤ w.heap.size) (hg : B ≤ g) : Below B w w' :=
  ⟨h.os, h.tape, h.output, h.size, fun k hk => h.block k (by omega) (fun e => by have := Option.some.inj e; omega)⟩
set_option maxRecDepth 100000 in
set_option maxHeartbeats 400000 in
theorem c_mnew (A : Option Addr) (n c : Nat) (key : List UInt8) (ok : Nat → Prop) (w : World) (hR : kU8.Row ok w A n c key) (hP : PrimesAt w) (hn2 : n < 1152921504606846976) :
    Calls Tryd.prog 13 #[.slice A n c] w fun e w' => ∃ m, e = .returned (.pointer (some ⟨m, 0, none⟩)) ∧ MacAt w' w.heap.size m key [] ∧ Below w.heap.size w w' := by
  have HR := hide hR
  have HP := hide hP
  have HN := hide hn2
  clear hR hP hn2
  go_enter Tryd.func13, Tryd.ntmps13
  go_wp2_with fail
  refine (c_turned A n c key 54 ok w HR.out HP.out HN.out).mono ?_
  rintro e w1 ⟨gi, rfl, hgi, hd1, b1⟩
  have HD1 := hide hd1
  have HB1 := hide b1
  have hws := b1.size
  have hgi1 := hd1.lt
  clear hd1 b1
  go_wp2_with fail
  refine (c_turned A n c key 92 ok w1 (HR.out.below HB1.out) (HP.out.ext HB1.out) HN.out).mono ?_
  rintro e w2 ⟨go, rfl, hgo, hd2, b2⟩
  have HD2 := hide hd2
  have HD12 := hide (HD1.out.ext b2)
  have HB2 := hide (bnext HB1.out b2)
  have hgo2 := hd2.lt
  have hws2 := b2.size
  clear hd2 b2
  go_wp2_with fail
  go_ret
  exact ⟨_, rfl, ⟨gi, go, heap_alloc_new _ _, by rw [List.append_nil]; exact HD12.out.ext (below1 _ _), HD2.out.ext (below1 _ _), by omega, by omega, by omega, by omega, by omega, by omega⟩, bnext HB2.out (below1 _ _)⟩
set_option maxRecDepth 100000 in
set_option maxHeartbeats 400000 in
theorem c_mwrite (base m : Nat) (key xs ys : List UInt8) (A : Option Addr) (n c : Nat) (w : World) (hM : MacAt w base m key xs) (hR : kU8.Row (· < base) w A n c ys) (hP : PrimesAt w) (hb : base ≤ w.heap.size) (hb0 : 0 < base) (hn : xs.length + n < 1152921504606846976) :
    Calls Tryd.prog 14 #[.pointer (some ⟨m, 0, none⟩), .slice A n c] w fun e w' => e = .returned (.tuple #[]) ∧ MacAt w' base m key (xs ++ ys) ∧ Below base w w' := by
  obtain ⟨gi, go, hm, hdi, hdo, n1, n2, n3, b1, b2, b3⟩ := hM
  have HM := hide hm
  have HDI := hide hdi
  have HDO := hide hdo
  have HR := hide hR
  have HP := hide hP
  have HN := hide hn
  have hms := (Array.getElem?_eq_some_iff.1 hm).1
  have hc0 : w.cell? ⟨m, 0, none⟩ = some (.pointer (some ⟨gi, 0, none⟩)) := (cell_of_row w m 0 _ _ _ hm).trans rfl
  have hos := hdo.lt
  clear hm hdi hdo hR hP hn
  go_enter Tryd.func14, Tryd.ntmps14
  go_wp2_with fail
  refine (c_dwrite gi _ ys A n c _ w HDI.out HR.out (fun k hk => by omega) HP.out (by omega) (by rw [List.length_append, keyX_len]; have := HN.out; omega)).mono ?_
  rintro e w2 ⟨rfl, hd2, gr⟩
  have HFIN : Hid (MacAt w2 base m key (xs ++ ys)) := hide ⟨gi, go, (gr.block m hms (fun e => n2 (Option.some.inj e))).trans HM.out, by rw [← List.append_assoc]; exact hd2, HDO.out.of_heap (gr.block go hos (fun e => n1 (Option.some.inj e).symm)), n1, n2, n3, b1, b2, b3⟩
  have HBB := hide (below_of_grown gr hb b2)
  clear hd2 gr
  go_wp2_with fail
  exact bodyPost_end (v := .tuple #[]) (by simp [results, Tryd.results14, go_sem]) rfl ⟨rfl, HFIN.out, HBB.out⟩
/-- A mac as a tag. -/
def macT (key xs : List UInt8) : Tg := ⟨mac key xs, rfl⟩
set_option maxRecDepth 100000 in
set_option maxHeartbeats 800000 in
theorem c_msum (base m : Nat) (key xs : List UInt8) (w : World) (hM : MacAt w base m key xs) (hP : PrimesAt w) (hn : xs.length < 576460752303423488) :
    Calls Tryd.prog 15 #[.pointer (some ⟨m, 0, none⟩)] w fun e w' => e = .returned (tgV (macT key xs)) ∧ Below w.heap.size w w' := by
  obtain ⟨gi, go, hm, hdi, hdo, -⟩ := hM
  have HDI := hide hdi
  have HDO := hide hdo
  have HP := hide hP
  have HN := hide hn
  have hms := (Array.getElem?_eq_some_iff.1 hm).1
  have hc0 : (w.alloc (.cells (tgC Tg.zero) 29)).cell? ⟨m, 0, none⟩ = some (.pointer (some ⟨gi, 0, none⟩)) := (cell_of_row _ m 0 _ _ _ ((Below.heap_alloc w _ m hms).trans hm)).trans rfl
  have HM := hide hm
  clear hm hdi hdo hP hn
  go_enter Tryd.func15, Tryd.ntmps15
  go_wp2_with fail
  obtain ⟨W1, hW1⟩ : ∃ W1, W1 = w.alloc (.cells (tgC Tg.zero) 29) := ⟨_, rfl⟩
  rw [← hW1]
  have hB1 : Below w.heap.size w W1 := by rw [hW1]; exact below1 _ _
  have hs1 : W1.heap.size = w.heap.size + 1 := by rw [hW1]; simp only [World.size_alloc]
  have hz1 : W1.heap[w.heap.size]? = some (.cells (tgC Tg.zero) 29) := by rw [hW1]; exact heap_alloc_new _ _
  clear hW1 hc0
  refine (c_dsum gi _ W1 (HDI.out.ext hB1) (HP.out.ext hB1) (by rw [List.length_append, keyX_len]; have := HN.out; omega)).mono ?_
  rintro e w2 ⟨rfl, b2⟩
  obtain ⟨t, htt⟩ : ∃ t, t = shaT (keyX key 54 ++ xs) := ⟨_, rfl⟩
  rw [← htt]
  have HTT := hide htt
  have hB2 := hB1.trans (b2.mono hB1.size)
  have hsz2 := b2.size
  have HB2 := hide (hB2.trans ((below1 w2 (.cells (tgC t) 29)).mono hB2.size))
  have HZ2 := hide ((Below.heap_alloc w2 (.cells (tgC t) 29) _ (by omega)).trans ((b2.block w.heap.size (by omega)).trans hz1))
  have hm2 : (w2.alloc (.cells (tgC t) 29)).heap[m]? = _ := (HB2.out.block m hms).trans HM.out
  have hc1 := (cell_of_row _ m 1 _ _ _ hm2).trans rfl
  have HDO2 := hide (HDO.out.of_heap (HB2.out.block go HDO.out.lt))
  have HT2 := hide (heap_alloc_new w2 (.cells (tgC t) 29))
  have hws1 := HB2.out.size
  clear htt hB2 hB1 hz1 b2 hm2
  go_wp2_with fail
  refine (c_dclone go _ _ HDO2.out).mono ?_
  rintro e w3 ⟨g', rfl, hg', hd3, b3⟩
  have HD3 := hide hd3
  have HB3 := hide (HB2.out.trans (b3.mono hws1))
  have hg2 : w2.heap.size + 1 ≤ g' := by simpa only [World.size_alloc] using hg'
  have hsz3 := b3.size
  rw [World.size_alloc] at hsz3
  have HZ3 := hide ((b3.block w.heap.size (by simp only [World.size_alloc]; omega)).trans HZ2.out)
  have ht3 := (b3.block w2.heap.size (by simp only [World.size_alloc]; omega)).trans HT2.out
  have hrow : kU8.Row (fun k => k = w2.heap.size) w3 (some ⟨w2.heap.size, 0, none⟩) 32 32 t.l := by
    rw [tgC_bl] at ht3
    have := row_all (ok := fun k => k = w2.heap.size) ht3 rfl (by rw [t.len]; decide)
    rwa [t.len] at this
  have HROW := hide hrow
  have hws3 := HB3.out.size
  clear hd3 b3 hg' ht3 hrow hc1
  go_wp2_with fail
  refine (c_dwrite g' _ t.l _ 32 32 _ w3 HD3.out HROW.out (fun k hk => by omega) (HP.out.ext HB3.out) (by omega) (by rw [keyX_len]; decide)).mono ?_
  rintro e w4 ⟨rfl, hd4, gr4⟩
  have HD4 : Hid (DigAt w4 g' (keyX key 92 ++ sha (keyX key 54 ++ xs))) := hide (by
    have h := hd4
    rw [HTT.out] at h
    exact h)
  have HB4 := hide (HB3.out.trans (below_of_grown (B := w.heap.size) gr4 hws3 (by omega)))
  have hg3 := HD3.out.lt
  have HZ4 := hide ((gr4.block w.heap.size (by omega) (fun e => by have := Option.some.inj e; omega)).trans HZ3.out)
  have hz4s := (Array.getElem?_eq_some_iff.1 HZ4.out).1
  have hws4 := HB4.out.size
  clear hd4 gr4
  go_wp2_with fail
  refine (c_dsum g' _ w4 HD4.out (HP.out.ext HB4.out) (by rw [List.length_append, keyX_len, sha_len]; decide)).mono ?_
  obtain ⟨u, huu⟩ : ∃ u, u = shaT (keyX key 92 ++ sha (keyX key 54 ++ xs)) := ⟨_, rfl⟩
  rw [← huu]
  have HUU : Hid (macT key xs = u) := hide (by rw [huu]; rfl)
  rintro e w5 ⟨rfl, b5⟩
  have hz5 := (b5.block w.heap.size hz4s).trans HZ4.out
  have hrz := row_of hz5
  have HB5 := hide (bsetRow (HB4.out.trans (b5.mono hws4)) (Nat.le_refl _) (tgC u))
  have hag9 : agg? (w5.setRow w.heap.size (tgC u)) ⟨w.heap.size, 0, none⟩ 32 = some (tgC u) := (agg_setRow_at _ _ _ _ _ (by rw [hrz]; rfl) (by decide)).trans (tgC_part u)
  clear b5 hz5 huu
  go_wp2_with fail
  exact bodyPost_ret (v := tgV u) (by simp [results, Tryd.results15, go_sem, hag9]) rfl ⟨by rw [HUU.out], HB5.out⟩
end Go.Proofs.YtdkeflhgengblaaDoor
namespace Go.Proofs.YtdkeflhgengblaaDoor
open Go.RowKit
attribute [local go_sem ↓] ld8 ld32 ld64 ld73
attribute [local go_sem] run_ldAgg run_storeAgg agg_alloc_at agg_alloc_past agg_drew agg_setCell row_alloc_at row_alloc_past row_drew setRow_alloc_at setRow_alloc_past setRow_drew agg_setRow_at agg_setRow_far cell_setRow_at cell_setRow_far row_setRow_far size_setRow s8C_size s8C_part s8C_one s8C_splice0 s8C_ne dgC_size dgC_72 dgC_part dgC_h dgC_r dgC_splice_h dgC_set dgC_one dgC_splice0 dgC_ne zero_dg
attribute [local go_sem] tgC_size tgC_one tgC_part tgC_splice tgC_splice_any zero_tg tgC_ne

set_option maxRecDepth 100000 in
set_option maxHeartbeats 1600000 in
theorem c_mof (A B : Option Addr) (n c m d : Nat) (key : List UInt8) (l : List (List UInt8)) (ok ok' : Nat → Prop) (w : World) (hK : kU8.Row ok' w A n c key) (hR : kRow8.Row ok w B m d l) (hP : PrimesAt w) (hn2 : n < 1152921504606846976) (hn : l.flatten.length < 576460752303423488) :
    Calls Tryd.prog 17 #[.slice A n c, .slice B m d] w fun e w' => e = .returned (tgV (macT key l.flatten)) ∧ Below w.heap.size w w' := by
  have HR := hide (hR.bound.more (ok' := fun k => k < w.heap.size + 1) fun k h => Nat.lt_succ_of_lt h.2)
  have HK := hide hK
  have HP := hide hP
  have HN := hide hn
  have HN2 := hide hn2
  have hll := hR.1
  have hm63 : m ≤ 9223372036854775807 := Nat.le_trans hR.2.1 hR.2.2.1
  clear hR hP hn hn2 hK
  go_enter Tryd.func17, Tryd.ntmps17
  go_wp2_with fail
  obtain ⟨W1, hW1⟩ : ∃ W1, W1 = w.alloc (.cells (tgC Tg.zero) 29) := ⟨_, rfl⟩
  rw [← hW1]
  have hB1 : Below w.heap.size w W1 := by rw [hW1]; exact below1 _ _
  have hs1 : W1.heap.size = w.heap.size + 1 := by rw [hW1]; simp only [World.size_alloc]
  have hz1 : W1.heap[w.heap.size]? = some (.cells (tgC Tg.zero) 29) := by rw [hW1]; exact heap_alloc_new _ _
  clear hW1
  refine (c_mnew A n c key _ W1 (HK.out.below hB1) (HP.out.ext hB1) HN2.out).mono ?_
  rintro e w2 ⟨g, rfl, hm2, b2⟩
  rw [hs1] at hm2
  have HM2 := hide hm2
  have HB2 := hide (hB1.trans (b2.mono hB1.size))
  have HZ2 := hide ((b2.block w.heap.size (by omega)).trans hz1)
  have hsz2 := b2.size
  rw [hs1] at hsz2
  have HLL := hide hll
  clear hm2 b2 hB1 hs1 hz1 hll
  go_wp2_with fail
  go_loopw [12] (fun i wr => ∃ (k : Nat), k ≤ m ∧ i = .int .i64 (k : Int) ∧ Hid (MacAt wr (w.heap.size + 1) g key (l.take k).flatten) ∧ Hid (wr.heap[w.heap.size]? = some (.cells (tgC Tg.zero) 29)) ∧ w.heap.size + 1 ≤ wr.heap.size ∧ Hid (Below w.heap.size w wr)) (fun i _ => m - (intOf i).toNat)
  case atStart => exact ⟨0, Nat.zero_le _, rfl, HM2, HZ2, hsz2, HB2⟩
  case round =>
    obtain ⟨k, hk, rfl, HM, HZ, hwr1, HB⟩ := hrel
    have hwr := HB.out.size
    by_cases hlt : k < m
    · obtain ⟨x, hx⟩ : ∃ x, l[k]? = some x := ⟨_, List.getElem?_eq_getElem (by have := HLL.out; omega)⟩
      obtain ⟨q, o, cs, hix, -, hbl, hKx, hra⟩ := (HR.out.below HB.out).index (P := Tryd.prog) Tryd.underlying23 (E := 22) bytes_info hx
      obtain ⟨A2, n2, c2, rfl, hr2⟩ := hKx
      have HR2 := hide hr2
      have hce : wr.cell? ⟨q, o, none⟩ = some (.slice A2 n2 c2) := by simpa using hra 0 _ rfl
      have HTK := hide (flat_take_succ hx)
      have HFP := hide (flat_part hx)
      clear hx hra hr2
      go_wp2_with fail
      refine (c_mwrite (w.heap.size + 1) g key _ x A2 n2 c2 wr HM.out HR2.out (HP.out.ext HB.out) hwr1 (by omega) (by have := HFP.out; have := HN.out; have := HR2.out.1; omega)).mono ?_
      rintro e w3 ⟨rfl, hm3, b3⟩
      have HM3 : Hid (MacAt w3 (w.heap.size + 1) g key (l.take (k + 1)).flatten) := hide (by rw [HTK.out]; exact hm3)
      have HB3 := hide (HB.out.trans (b3.mono (Nat.le_succ _)))
      have HZ3 := hide ((b3.block w.heap.size (Nat.lt_succ_self _)).trans HZ.out)
      have hw3 := b3.size
      clear hm3 b3 hix hce
      go_wp2_with fail
      go_roundw
      case rel => exact ⟨k + 1, by omega, by simp, HM3, HZ3, by omega, HB3⟩
      case measure => simp [intOf]; omega
    · obtain rfl : m = k := by omega
      go_wp2_with fail
      have hm9 := HM.out
      rw [List.take_of_length_le (show l.length ≤ m by have := HLL.out; omega)] at hm9
      refine (c_msum _ g key _ wr hm9 (HP.out.ext HB.out) HN.out).mono ?_
      obtain ⟨t, htt⟩ : ∃ t, t = macT key l.flatten := ⟨_, rfl⟩
      rw [← htt]
      have HTT := hide htt
      clear htt hm9
      rintro e w9 ⟨rfl, b9⟩
      have hz9 := (b9.block w.heap.size hwr1).trans HZ.out
      have hrz := row_of hz9
      have HB9 := hide (bsetRow (HB.out.trans (b9.mono hwr)) (Nat.le_refl _) (tgC t))
      have hag9 : agg? (w9.setRow w.heap.size (tgC t)) ⟨w.heap.size, 0, none⟩ 32 = some (tgC t) := (agg_setRow_at _ _ _ _ _ (by rw [hrz]; rfl) (by decide)).trans (tgC_part t)
      clear b9 hz9
      go_wp2_with fail
      exact bodyPost_ret (v := tgV t) (by simp [results, Tryd.results17, go_sem, hag9]) rfl ⟨by rw [HTT.out], HB9.out⟩
end Go.Proofs.YtdkeflhgengblaaDoor
