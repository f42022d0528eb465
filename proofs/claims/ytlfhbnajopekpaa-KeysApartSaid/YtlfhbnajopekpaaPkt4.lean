/- The walks of layer 10: a reader's caveats. No condition. -/
import Derived.Test.YtlfhbnajopekpaaPkt3
namespace Go.Proofs.Ytlfhbnajopekpaa
open Go.RowKit

theorem ptake_len {k : UInt8} {l r : List Fld} {x : ByteArray} (h : ptake k l = some (x, r)) : l.length = r.length + 1 := by
  cases l with
  | nil => cases h
  | cons f q =>
    simp only [ptake] at h
    split at h
    · cases h; rfl
    · cases h
theorem pnum_len {k : UInt8} {l r : List Fld} {x : Nat} (h : pnum k l = some (x, r)) : l.length = r.length + 1 := by
  unfold pnum at h
  cases hp : ptake k l with
  | none => rw [hp] at h; cases h
  | some y =>
    obtain ⟨y, q⟩ := y
    rw [hp] at h
    simp only [Option.bind_some] at h
    split at h
    · cases h
    · cases h; exact ptake_len hp
/-- What a third party's caveat is read to. -/
def pthird (l : List Fld) : Option (Cav × List Fld) :=
  (pnum 4 l).bind fun a => (ptake 5 a.2).bind fun b => (ptake 6 b.2).map fun c => (⟨true, ByteArray.empty, a.1, b.1, c.1⟩, c.2)
theorem pthird_len {l r : List Fld} {x : Cav} (h : pthird l = some (x, r)) : r.length < l.length := by
  unfold pthird at h
  obtain ⟨a, ha, h⟩ := Option.bind_eq_some_iff.1 h
  obtain ⟨b, hb, h⟩ := Option.bind_eq_some_iff.1 h
  obtain ⟨c, hc, h⟩ := Option.map_eq_some_iff.1 h
  have h1 := pnum_len (r := a.2) (x := a.1) ha
  have h2 := ptake_len (r := b.2) (x := b.1) hb
  have h3 := ptake_len (r := c.2) (x := c.1) hc
  cases h
  omega
def pcavs (l : List Fld) : Option (List Cav × List Fld) :=
  if pis 3 (some l) = true then
    match _h : ptake 3 l with
    | none => none
    | some x => (pcavs x.2).map fun y => (⟨false, x.1, 0, ByteArray.empty, ByteArray.empty⟩ :: y.1, y.2)
  else if pis 4 (some l) = true then
    match _h : pthird l with
    | none => none
    | some x => (pcavs x.2).map fun y => (x.1 :: y.1, y.2)
  else some ([], l)
termination_by l.length
decreasing_by
  · have := ptake_len (r := x.2) (x := x.1) _h
    omega
  · exact pthird_len (r := x.2) (x := x.1) _h
theorem pcavs_text {l r : List Fld} {x : ByteArray} (h : pis 3 (some l) = true) (ht : ptake 3 l = some (x, r)) : pcavs l = (pcavs r).map fun y => (⟨false, x, 0, ByteArray.empty, ByteArray.empty⟩ :: y.1, y.2) := by
  rw [pcavs, if_pos h]
  split
  · rename_i h'; rw [ht] at h'; cases h'
  · rename_i y h'
    rw [ht] at h'
    cases h'
    rfl
theorem pcavs_third {l r : List Fld} {x : Cav} (h3 : pis 3 (some l) = false) (h : pis 4 (some l) = true) (ht : pthird l = some (x, r)) : pcavs l = (pcavs r).map fun y => (x :: y.1, y.2) := by
  rw [pcavs, if_neg (by rw [h3]; decide), if_pos h]
  split
  · rename_i h'; rw [ht] at h'; cases h'
  · rename_i y h'
    rw [ht] at h'
    cases h'
    rfl
theorem pcavs_bad {l : List Fld} (h3 : pis 3 (some l) = false) (h : pis 4 (some l) = true) (ht : pthird l = none) : pcavs l = none := by
  rw [pcavs, if_neg (by rw [h3]; decide), if_pos h]
  split
  · rfl
  · rename_i y h'
    rw [ht] at h'
    cases h'
theorem pcavs_end {l : List Fld} (h3 : pis 3 (some l) = false) (h : pis 4 (some l) = false) : pcavs l = some ([], l) := by
  rw [pcavs, if_neg (by rw [h3]; decide), if_neg (by rw [h]; decide)]
theorem pis_take {k : UInt8} {l : List Fld} (h : pis k (some l) = true) : ∃ x r, ptake k l = some (x, r) := by
  cases l with
  | nil => cases h
  | cons f r =>
    have : f.kind = k := by simpa [pis] using h
    exact ⟨f.value, r, by simp [ptake, this]⟩

/-- How many rounds may follow. -/
def rdM (w : World) (g : Nat) : Nat := match w.heap[g]? with | some (.cells #[.slice _ n _, .bool false] _ _) => n + 1 | _ => 0
theorem RdAt.m_some {w : World} {g : Nat} {l : List Fld} (h : RdAt w g (some l)) : rdM w g = l.length + 1 := by
  obtain ⟨A, n, c, l', h1, h2, h3⟩ := h
  rw [rdM, h1, ← h3 l rfl, h2.1]
  rfl
theorem RdAt.m_none {w : World} {g : Nat} (h : RdAt w g none) : rdM w g = 0 := by
  obtain ⟨A, n, c, l', h1, h2, h3⟩ := h
  rw [rdM, h1]
  rfl
theorem c_ris2 (w : World) (g : Nat) (k : UInt8) (l : List Fld) (i : Int) (hi : i = (k.toNat : Int)) (h : RdAt w g (some l)) :
    Calls Try.prog 87 #[.pointer (some ⟨g, 0, none⟩), .int .u8 i] w fun e w' => e = .returned (.bool (pis k (some l))) ∧ w = w' := by
  obtain ⟨A, n, c, l', hg, hr, hl⟩ := h
  have := hl l rfl
  subst this
  exact c_ris w g k A n c l' _ _ i hi hg hr
def CavsRead (w : World) (g : Nat) (o : Option (List Cav × List Fld)) (e : Ending) (w' : World) : Prop :=
  ∃ v, e = .returned v ∧ Only g w w' ∧ kCav.Own (fun _ => False) w.heap.size w' 85 v ((o.map (·.1)).getD []) ∧ RdAt w' g (o.map (·.2))
theorem cav_info : (Try.prog.info? 85).map (fun i => (i.zero, i.size, i.bytes)) = some (some (.agg #[.bool false, .string ByteArray.empty, .int .u64 0, .string ByteArray.empty, .string ByteArray.empty]), 5, 64) := by kernel_rfl
theorem src_cav {ok ok' : Nat → Prop} {w : World} {A : Option Addr} {m : Nat} {xs : List Cav} (h : kCav.Src ok w A m xs) : kCav.Src ok' w A m xs := let ⟨h1, css, he, hc⟩ := h; ⟨h1, css, ⟨he.1, fun i x cs hx hcs => he.2 i x cs hx hcs⟩, hc⟩
theorem own_only {w w' : World} {g base : Nat} {E : TypeId} {v : Value} {xs : List Cav} (h : kCav.Own (fun _ => False) base w E v xs) (hg : g < base) (ho : Only g w w') : kCav.Own (fun _ => False) base w' E v xs :=
  h.keep fun k hk hk' => ho.2.2.2.2 k hk (by
    rcases hk' with hk' | hk'
    · exact hk'.elim
    · have := (h.base_le k hk'.symm).1; omega)

theorem text_ok {v : ByteArray} (h : v.size ≤ maxLen) : (⟨false, v, 0, ByteArray.empty, ByteArray.empty⟩ : Cav).ok := ⟨h, by show (0 : Nat) < _; decide, by show (0 : Nat) ≤ _; omega, by show (0 : Nat) ≤ _; omega⟩
theorem third_ok {p : Nat} {i v : ByteArray} (hp : p < 18446744073709551616) (hi : i.size ≤ maxLen) (hv : v.size ≤ maxLen) : (⟨true, ByteArray.empty, p, i, v⟩ : Cav).ok := ⟨by show (0 : Nat) ≤ _; omega, hp, hi, hv⟩
theorem Only.setNew {g : Nat} {w w' : World} (h : Only g w w') {a : Addr} (ha : w.heap.size ≤ a.block) (v : Value) : Only g w (w'.setCell a v) :=
  ⟨h.1, h.2.1, h.2.2.1, by simpa using h.size, fun k hk hg => (Below.heap_setCell w' a v k (by omega)).trans (h.2.2.2.2 k hk hg)⟩
theorem Only.more {g : Nat} {w w1 w2 : World} (h : Only g w w1) (k : Below w.heap.size w1 w2) : Only g w w2 :=
  ⟨k.os.trans h.1, k.tape.trans h.2.1, k.output.trans h.2.2.1, Nat.le_trans h.size k.size, fun i hi hg => (k.block i hi).trans (h.2.2.2.2 i hi hg)⟩
theorem third_map (l : List Fld) : (pthird l).map (·.2) = ((((((some l).bind (pnum 4)).map (·.2)).bind (ptake 5)).map (·.2)).bind (ptake 6)).map (·.2) := by
  unfold pthird
  simp only [Option.bind_some]
  cases pnum 4 l with
  | none => rfl
  | some a =>
    simp only [Option.bind_some, Option.map_some]
    cases ptake 5 a.2 with
    | none => rfl
    | some b =>
      simp only [Option.bind_some, Option.map_some]
      cases ptake 6 b.2 <;> rfl
theorem third_some {l r : List Fld} {x : Cav} (h : pthird l = some (x, r)) : ∃ p i v l1 l2, (some l).bind (pnum 4) = some (p, l1) ∧ (((some l).bind (pnum 4)).map (·.2)).bind (ptake 5) = some (i, l2) ∧
    (((((some l).bind (pnum 4)).map (·.2)).bind (ptake 5)).map (·.2)).bind (ptake 6) = some (v, r) ∧ x = ⟨true, ByteArray.empty, p, i, v⟩ := by
  unfold pthird at h
  obtain ⟨a, ha, h⟩ := Option.bind_eq_some_iff.1 h
  obtain ⟨b, hb, h⟩ := Option.bind_eq_some_iff.1 h
  obtain ⟨c, hc, h⟩ := Option.map_eq_some_iff.1 h
  cases h
  refine ⟨a.1, b.1, c.1, a.2, b.2, by simp [ha], by simp [ha, hb], by simp [ha, hb, hc], rfl⟩
set_option maxRecDepth 100000 in
set_option maxHeartbeats 2000000 in
theorem c_rcavs (w : World) (g : Nat) (s : Option (List Fld)) (h : RdAt w g s) (hn : ∀ l, s = some l → l.length ≤ 1099511627776) :
    Calls Try.prog 66 #[.pointer (some ⟨g, 0, none⟩)] w (CavsRead w g (s.bind pcavs)) := by
  have hlt := h.lt
  have H := hide h
  have HN := hide hn
  clear h hn
  go_enter Try.func66, Try.ntmps66
  go_wp2
  go_loopw [3] (fun p wr => ∃ (s' : Option (List Fld)) (acc : List Cav), Hid (RdAt wr g s') ∧ Hid (kCav.Own (fun _ => False) w.heap.size wr 85 p acc) ∧ Hid (∀ l, s' = some l → acc.length + l.length ≤ 1099511627776) ∧ Hid (s.bind pcavs = s'.bind fun l => (pcavs l).map fun y => (acc ++ y.1, y.2)) ∧ Hid (Only g w wr)) (fun _ wr => rdM wr g)
  case atStart => exact ⟨s, [], H, hide (.nil _ _ _ _ _), hide (by simpa using HN.out), hide (by simp), hide (Only.refl _ _)⟩
  case round =>
    obtain ⟨s', acc, HR, HO, HC, HE, HW⟩ := hrel
    cases s' with
    | none =>
      have hc1 : wr.cell? ⟨g, 1, none⟩ = some (.bool true) := by
        obtain ⟨A, n, c, l, hg, _⟩ := HR.out
        exact (cell_of_row wr _ _ _ _ _ hg).trans rfl
      go_wp2_with fail
      go_ret
      exact ⟨_, rfl, HW.out, by rw [HE.out]; exact .nil _ _ _ _ _, by rw [HE.out]; exact HR.out⟩
    | some l =>
      have hc1 : wr.cell? ⟨g, 1, none⟩ = some (.bool false) := by
        obtain ⟨A, n, c, l, hg, _⟩ := HR.out
        exact (cell_of_row wr _ _ _ _ _ hg).trans rfl
      cases h3 : pis 3 (some l) with
      | true =>
        obtain ⟨x, r, ht⟩ := pis_take h3
        have HT := hide ht
        have H3 := hide h3
        clear ht h3
        go_wp2_with fail
        refine (c_ris2 wr g 3 l _ (by rfl) HR.out).mono ?_
        rintro e w1 ⟨rfl, rfl⟩
        rw [H3.out]
        go_wp2_with fail
        refine (c_rtake wr g 3 (some l) _ rfl HR.out).mono ?_
        rintro e w1 ⟨v, rfl, hv, hx, h1, h2⟩
        simp only [Option.bind_some, HT.out, Option.map_some] at hx h2
        obtain rfl := hx x r rfl
        have HV := hide hv
        have HR1 := hide h2
        have HO1 := hide (own_only HO.out hlt h1)
        have HW1 := hide (HW.out.trans h1)
        have hs1 := h1.size
        have hsw := HW.out.size
        have HLEN := hide (ptake_len HT.out)
        clear hv hx h1 h2
        go_wp2_with (at_builtin; go_must (refine wpList_app (d := kCav) (ys := [⟨false, v, 0, ByteArray.empty, ByteArray.empty⟩]) rfl _ _ _ rfl Try.underlying57 cav_info rfl (by decide) 1 rfl rfl (.inl (HO1.out.below (below1 _ _))) (src_cav (ok := fun _ => True) (Kd.Src.new (d := kCav) ⟨rfl, text_ok HV.out⟩ _ rfl _ ?_)) ?_ ?_ ?_ ?_))
        · simp
        · simp; omega
        · have := HC.out l rfl; simp only [maxLen]; omega
        · have := HC.out l rfl; omega
        · intro v1 w2 _ h2 h3 h4 h5
          have HO2 := hide h2
          have HB2 : Hid (Below w.heap.size w1 w2) := hide (((below1 w1 (.cells #[.bool false, .string v, .int .u64 0, .string ⟨#[]⟩, .string ⟨#[]⟩] 85)).mono (by omega)).trans h3)
          have HW2 := hide (HW1.out.more HB2.out)
          have HR2 := hide (HR1.out.keep fun k hk => HB2.out.block k (by omega))
          have HM := hide HR.out.m_some
          have HM2 := hide HR2.out.m_some
          have HE2 : Hid (s.bind pcavs = (some r).bind fun l => (pcavs l).map fun y => ((acc ++ [⟨false, v, 0, ByteArray.empty, ByteArray.empty⟩]) ++ y.1, y.2)) := hide (by
            rw [HE.out, Option.bind_some, Option.bind_some, pcavs_text H3.out HT.out, Option.map_map]
            congr 1
            funext y
            simp)
          clear h2 h3 h4 h5
          go_wp2_with fail
          go_roundw
          case rel => exact ⟨some r, acc ++ [⟨false, v, 0, ByteArray.empty, ByteArray.empty⟩], HR2, HO2, hide (fun l' hl' => by cases hl'; have := HC.out l rfl; have := HLEN.out; simp; omega), HE2, HW2⟩
          case measure => rw [HM.out, HM2.out, HLEN.out]; omega
      | false =>
        cases h4 : pis 4 (some l) with
        | false =>
          have HE2 := hide (pcavs_end h3 h4)
          have H3 := hide h3
          have H4 := hide h4
          clear h3 h4
          go_wp2_with fail
          refine (c_ris2 wr g 3 l _ (by rfl) HR.out).mono ?_
          rintro e w1 ⟨rfl, rfl⟩
          rw [H3.out]
          go_wp2_with fail
          refine (c_ris2 wr g 4 l _ (by rfl) HR.out).mono ?_
          rintro e w1 ⟨rfl, rfl⟩
          rw [H4.out]
          go_wp2_with fail
          go_ret
          exact ⟨_, rfl, HW.out, by rw [HE.out, Option.bind_some, HE2.out]; simpa using HO.out, by rw [HE.out, Option.bind_some, HE2.out]; exact HR.out⟩
        | true =>
          have H3 := hide h3
          have H4 := hide h4
          have HT := hide (fun x r => pcavs_third (l := l) (x := x) (r := r) h3 h4)
          have HTB := hide (pcavs_bad h3 h4)
          have HTM := hide (third_map l)
          have HTS := hide (fun x r => third_some (l := l) (x := x) (r := r))
          clear h3 h4
          go_wp2_with fail
          refine (c_ris2 wr g 3 l _ (by rfl) HR.out).mono ?_
          rintro e w1 ⟨rfl, rfl⟩
          rw [H3.out]
          go_wp2_with fail
          refine (c_ris2 wr g 4 l _ (by rfl) HR.out).mono ?_
          rintro e w1 ⟨rfl, rfl⟩
          rw [H4.out]
          go_wp2_with fail
          refine (c_rnumber wr g 4 (some l) _ rfl HR.out).mono ?_
          rintro e w1 ⟨p, rfl, hp, hpx, h1, h2⟩
          have HP := hide hp
          have HPX := hide hpx
          have HR1 := hide h2
          have HO1 := hide (own_only HO.out hlt h1)
          have HW1 := hide (HW.out.trans h1)
          have hs1 := HW1.out.size
          clear hp hpx h1 h2
          go_wp2_with fail
          refine (c_rtake (w1.alloc (.cells #[.bool true, .string ⟨#[]⟩, .int .u64 (p : Int), .string ⟨#[]⟩, .string ⟨#[]⟩] 85)) g 5 _ _ rfl (HR1.out.below (below1 _ _))).mono ?_
          rintro e w2 ⟨i, rfl, hi, hix, h1, h2⟩
          have HI := hide hi
          have HIX := hide hix
          have hsz1 : w1.heap.size < w2.heap.size := by have := h1.size; simp only [World.size_alloc] at this; omega
          have hgw : g < w1.heap.size := by omega
          have hX2 : w2.heap[w1.heap.size]? = some (.cells #[.bool true, .string ⟨#[]⟩, .int .u64 (p : Int), .string ⟨#[]⟩, .string ⟨#[]⟩] 85) := (h1.2.2.2.2 _ (by simp) (by omega)).trans (heap_alloc_new _ _)
          have HX2 := hide hX2
          have hy0 : w2.cell? ⟨w1.heap.size, 0, none⟩ = some (.bool true) := (cell_of_row w2 _ _ _ _ _ hX2).trans rfl
          have hy1 : w2.cell? ⟨w1.heap.size, 1, none⟩ = some (.string ⟨#[]⟩) := (cell_of_row w2 _ _ _ _ _ hX2).trans rfl
          have hy2 : w2.cell? ⟨w1.heap.size, 2, none⟩ = some (.int .u64 (p : Int)) := (cell_of_row w2 _ _ _ _ _ hX2).trans rfl
          have hy3 : w2.cell? ⟨w1.heap.size, 3, none⟩ = some (.string ⟨#[]⟩) := (cell_of_row w2 _ _ _ _ _ hX2).trans rfl
          have hy4 : w2.cell? ⟨w1.heap.size, 4, none⟩ = some (.string ⟨#[]⟩) := (cell_of_row w2 _ _ _ _ _ hX2).trans rfl
          have hfz : w2.frozen? ⟨w1.heap.size, 3, none⟩ = false := frozen_of_row w2 _ _ _ _ hX2
          have HR2 := hide (h2.keep (w' := w2.setCell ⟨w1.heap.size, 3, none⟩ (.string i)) fun k hk => Below.heap_setCell _ _ _ _ (by show k ≠ w1.heap.size; omega))
          have HN2 : Hid (Only g w1 (w2.setCell ⟨w1.heap.size, 3, none⟩ (.string i))) := hide ((((Only.refl g w1).alloc _).trans h1).setNew (Nat.le_refl _) _)
          clear hi hix h1 h2 hX2
          go_wp2_with fail
          refine (c_rtake (w2.setCell ⟨w1.heap.size, 3, none⟩ (.string i)) g 6 _ _ rfl HR2.out).mono ?_
          rintro e w3 ⟨v, rfl, hv, hvx, h1, h2⟩
          have HV := hide hv
          have HVX := hide hvx
          have hsz2 : w2.heap.size ≤ w3.heap.size := by have := h1.size; simpa using this
          have hX3 : w3.heap[w1.heap.size]? = some (.cells #[.bool true, .string ⟨#[]⟩, .int .u64 (p : Int), .string i, .string ⟨#[]⟩] 85) := (h1.2.2.2.2 _ (by simp; omega) (by omega)).trans (heap_setCell_at HX2.out _)
          have hz0 : w3.cell? ⟨w1.heap.size, 0, none⟩ = some (.bool true) := (cell_of_row w3 _ _ _ _ _ hX3).trans rfl
          have hz1 : w3.cell? ⟨w1.heap.size, 1, none⟩ = some (.string ⟨#[]⟩) := (cell_of_row w3 _ _ _ _ _ hX3).trans rfl
          have hz2 : w3.cell? ⟨w1.heap.size, 2, none⟩ = some (.int .u64 (p : Int)) := (cell_of_row w3 _ _ _ _ _ hX3).trans rfl
          have hz3 : w3.cell? ⟨w1.heap.size, 3, none⟩ = some (.string i) := (cell_of_row w3 _ _ _ _ _ hX3).trans rfl
          have hz4 : w3.cell? ⟨w1.heap.size, 4, none⟩ = some (.string ⟨#[]⟩) := (cell_of_row w3 _ _ _ _ _ hX3).trans rfl
          have hfz2 : w3.frozen? ⟨w1.heap.size, 4, none⟩ = false := frozen_of_row w3 _ _ _ _ hX3
          have HN3 : Hid (Only g w1 (w3.setCell ⟨w1.heap.size, 4, none⟩ (.string v))) := hide ((HN2.out.trans h1).setNew (Nat.le_refl _) _)
          have HR3 := hide (h2.keep (w' := w3.setCell ⟨w1.heap.size, 4, none⟩ (.string v)) fun k hk => Below.heap_setCell _ _ _ _ (by show k ≠ w1.heap.size; omega))
          have HLEN : Hid (1 ≤ l.length) := hide (by
            obtain ⟨x, r, ht⟩ := pis_take H4.out
            have := ptake_len ht
            omega)
          have HM := hide HR.out.m_some
          clear hv hvx h1 h2 hX3
          go_wp2_with (at_builtin; go_must (refine wpList_app (d := kCav) (ys := [⟨true, ByteArray.empty, p, i, v⟩]) rfl _ _ _ rfl Try.underlying57 cav_info rfl (by decide) 1 rfl rfl (.inl ((own_only HO1.out hlt HN3.out).below (below1 _ _))) (src_cav (ok := fun _ => True) (Kd.Src.new (d := kCav) ⟨rfl, third_ok HP.out HI.out HV.out⟩ _ rfl _ ?_)) ?_ ?_ ?_ ?_))
          · simp
          · simp; omega
          · have := HC.out l rfl; have := HLEN.out; simp only [maxLen]; omega
          · have := HC.out l rfl; have := HLEN.out; omega
          · intro v1 w4 _ h2 h3 h4 h5
            have HO4 := hide h2
            have HB4 : Hid (Below w.heap.size (w3.setCell ⟨w1.heap.size, 4, none⟩ (.string v)) w4) := hide (((below1 (w3.setCell ⟨w1.heap.size, 4, none⟩ (.string v)) (.cells #[.bool true, .string ⟨#[]⟩, .int .u64 (p : Int), .string i, .string v] 85)).mono (by simp; omega)).trans h3)
            have HW4 := hide ((HW1.out.trans HN3.out).more HB4.out)
            have HR4 := HR3.out.keep (w' := w4) fun k hk => HB4.out.block k (by omega)
            rw [← HTM.out] at HR4
            have HR4 := hide HR4
            clear h2 h3 h4 h5
            go_wp2_with fail
            go_roundw
            case rel =>
              refine ⟨_, acc ++ [⟨true, ByteArray.empty, p, i, v⟩], HR4, HO4, hide (fun l' hl' => ?_), hide ?_, HW4⟩
              · obtain ⟨⟨x, r⟩, hx, rfl⟩ := Option.map_eq_some_iff.1 hl'
                have := pthird_len hx
                have := HC.out l rfl
                simp
                omega
              · rw [HE.out, Option.bind_some]
                cases hpt : pthird l with
                | none => rw [HTB.out hpt]; rfl
                | some xr =>
                  obtain ⟨x, r⟩ := xr
                  obtain ⟨p', i', v', l1, l2, e1, e2, e3, ex⟩ := HTS.out x r hpt
                  have q1 := HPX.out _ _ e1
                  have q2 := HIX.out _ _ e2
                  have q3 := HVX.out _ _ e3
                  subst q1 q2 q3 ex
                  rw [HT.out _ _ hpt, Option.map_map]
                  show _ = Option.map _ (pcavs r)
                  congr 1
                  funext y
                  simp
            case measure =>
              have HR5 := HR4.out
              rw [HM.out]
              cases hpt : pthird l with
              | none => rw [hpt] at HR5; rw [HR5.m_none]; omega
              | some xr =>
                obtain ⟨x, r⟩ := xr
                rw [hpt] at HR5
                have := pthird_len hpt
                rw [RdAt.m_some HR5]
                show r.length + 1 < _
                omega
end Go.Proofs.Ytlfhbnajopekpaa
