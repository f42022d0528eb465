/- The walk of the statement HmacSums. No condition. -/
import Derived.Test.YtdkeflhgengblaaDoorHs1
import Derived.Test.YtdkeflhgengblaaDoorReg3
import Derived.Test.YtdkeflhgengblaaDoorTagEq
namespace Go.Proofs.YtdkeflhgengblaaDoor
open Go.RowKit
attribute [local go_sem ↓] ld8 ld32 ld64 ld73
attribute [local go_sem] run_ldAgg run_storeAgg agg_alloc_at agg_alloc_past agg_drew agg_setCell row_alloc_at row_alloc_past row_drew setRow_alloc_at setRow_alloc_past setRow_drew agg_setRow_at agg_setRow_far cell_setRow_at cell_setRow_far row_setRow_far size_setRow s8C_size s8C_part s8C_one s8C_splice0 s8C_ne dgC_size dgC_72 dgC_part dgC_h dgC_r dgC_splice_h dgC_set dgC_one dgC_splice0 dgC_ne zero_dg
attribute [local go_sem] tgC_size tgC_one tgC_part tgC_splice tgC_splice_any zero_tg tgC_ne

/-- A row of bytes in a block of the call's own, whatever the bytes. -/
def OwnB (w : World) (A : Option Addr) (n lo hi : Nat) : Prop :=
  0 < n → ∃ g cur, A = some ⟨g, 0, none⟩ ∧ lo ≤ g ∧ g < hi ∧ w.heap[g]? = some (.cells cur 5 (0, 0)) ∧ ∀ i, i < n → ∃ x : UInt8, cur[i]? = some (bv x)
theorem own_cells {base : Nat} {w : World} {v : Value} {xs : List UInt8} (h : kU8.Own (fun _ => True) base w 5 v xs) : ∃ A c, v = .slice A xs.length c ∧ OwnB w A xs.length base w.heap.size ∧ kU8.Row (base ≤ ·) w A xs.length c xs := by
  obtain ⟨A, c, rfl, hr⟩ := own_row h
  refine ⟨A, c, rfl, fun hn => ?_, hr⟩
  obtain ⟨css, he, h1, h2⟩ := h
  rw [els8 he] at h2
  rcases h2 with ⟨e, h0⟩ | ⟨g, cap, cur, e, hb, hg, hn', hm, hs, ht⟩
  · omega
  · obtain ⟨rfl, -, -⟩ := by simpa using e
    refine ⟨g, cur, rfl, hb, (Array.getElem?_eq_some_iff.1 hg).1, hg, fun i hi => ⟨xs[i], ?_⟩⟩
    have hl : (xs.map bv).length = xs.length := List.length_map _
    have := congrArg (·[i]?) ht
    simp only [List.getElem?_take, List.getElem?_map, Array.getElem?_toList] at this
    rw [if_pos (show i < xs.length * kU8.sz by rw [show kU8.sz = 1 from rfl]; omega), List.getElem?_eq_getElem hi] at this
    exact this
theorem OwnB.below {w w' : World} {A : Option Addr} {n lo hi : Nat} (h : OwnB w A n lo hi) (hb : Below w.heap.size w w') : OwnB w' A n lo hi := fun hn =>
  let ⟨g, cur, e, h1, h2, hg, hc⟩ := h hn; ⟨g, cur, e, h1, h2, (hb.block g (Array.getElem?_eq_some_iff.1 hg).1).trans hg, hc⟩
theorem idx_own8 (g n c j : Nat) (hj : j < n) : ∀ wx : World, (Instr.indexAt 22 (.slice (some ⟨g, 0, none⟩) n c) (.int .i64 (j : Int))).run Tryd.prog wx = .ok (.pointer (some ⟨g, j, none⟩)) wx := fun wx => by
  have hE : (Tryd.prog.info? 5).map (·.size) = some 1 := by kernel_rfl
  cases hq : Tryd.prog.info? 5 with
  | none => rw [hq] at hE; cases hE
  | some x =>
    rw [hq] at hE
    have : x.size = 1 := by simpa using hE
    simp [Instr.indexAt, asIntOf, run_underlying Tryd.underlying22, sizeOf, typeInfo, hq, this, hj, Addr.add]
    omega
/-- A mac and its blocks. -/
def MacP (w : World) (m gi go : Nat) (key xs : List UInt8) : Prop :=
  w.heap[m]? = some (.cells #[.pointer (some ⟨gi, 0, none⟩), .pointer (some ⟨go, 0, none⟩)] 123) ∧ DigAt w gi (keyX key 54 ++ xs) ∧ DigAt w go (keyX key 92)
theorem MacAt.keep {w w' : World} {base m : Nat} {key xs : List UInt8} (h : MacAt w base m key xs) (hk : ∀ k, base ≤ k → w'.heap[k]? = w.heap[k]?) : MacAt w' base m key xs :=
  let ⟨gi, go, h1, h2, h3, n1, n2, n3, b1, b2, b3⟩ := h; ⟨gi, go, (hk m b1).trans h1, h2.of_heap (hk gi b2), h3.of_heap (hk go b3), n1, n2, n3, b1, b2, b3⟩
theorem MacAt.parts {w : World} {base m : Nat} {key xs : List UInt8} (h : MacAt w base m key xs) : ∃ gi go, MacP w m gi go key xs ∧ gi ≠ go ∧ m ≠ gi ∧ m ≠ go ∧ base ≤ m ∧ base ≤ gi ∧ base ≤ go ∧ m < w.heap.size ∧ gi < w.heap.size ∧ go < w.heap.size :=
  let ⟨gi, go, h1, h2, h3, n1, n2, n3, b1, b2, b3⟩ := h; ⟨gi, go, ⟨h1, h2, h3⟩, n1, n2, n3, b1, b2, b3, (Array.getElem?_eq_some_iff.1 h1).1, h2.lt, h3.lt⟩
theorem MacP.at {w : World} {m gi go : Nat} {key xs : List UInt8} (h : MacP w m gi go key xs) (n1 : gi ≠ go) (n2 : m ≠ gi) (n3 : m ≠ go) : MacAt w 0 m key xs := ⟨gi, go, h.1, h.2.1, h.2.2, n1, n2, n3, Nat.zero_le _, Nat.zero_le _, Nat.zero_le _⟩
theorem MacP.belowB {w w' : World} {B m gi go : Nat} {key xs : List UInt8} (h : MacP w m gi go key xs) (hb : Below B w w') (h1 : m < B) (h2 : gi < B) (h3 : go < B) : MacP w' m gi go key xs := ⟨(hb.block m h1).trans h.1, h.2.1.of_heap (hb.block gi h2), h.2.2.of_heap (hb.block go h3)⟩
set_option maxRecDepth 100000 in
set_option maxHeartbeats 400000 in
theorem c_mwrite2 (m gi go : Nat) (key xs ys : List UInt8) (A : Option Addr) (n c : Nat) (ok : Nat → Prop) (w : World) (hM : MacP w m gi go key xs) (n1 : gi ≠ go) (n2 : m ≠ gi) (hR : kU8.Row ok w A n c ys) (hok : ∀ k, ok k → k ≠ gi) (hP : PrimesAt w) (hg0 : gi ≠ 0) (hn : xs.length + n < 1152921504606846976) :
    Calls Tryd.prog 14 #[.pointer (some ⟨m, 0, none⟩), .slice A n c] w fun e w' => e = .returned (.tuple #[]) ∧ MacP w' m gi go key (xs ++ ys) ∧ w.grownBy w' (some gi) := by
  obtain ⟨hm, hdi, hdo⟩ := hM
  have HM := hide hm
  have HDI := hide hdi
  have HDO := hide hdo
  have HR := hide hR
  have HP := hide hP
  have HN := hide hn
  have HOK := hide hok
  have hms := (Array.getElem?_eq_some_iff.1 hm).1
  have hc0 : w.cell? ⟨m, 0, none⟩ = some (.pointer (some ⟨gi, 0, none⟩)) := (cell_of_row w m 0 _ _ _ hm).trans rfl
  have hos := hdo.lt
  clear hm hdi hdo hR hP hn hok
  go_enter Tryd.func14, Tryd.ntmps14
  go_wp2_with fail
  refine (c_dwrite gi _ ys A n c _ w HDI.out HR.out HOK.out HP.out hg0 (by rw [List.length_append, keyX_len]; have := HN.out; omega)).mono ?_
  rintro e w2 ⟨rfl, hd2, gr⟩
  have HFIN : Hid (MacP w2 m gi go key (xs ++ ys)) := hide ⟨(gr.block m hms (fun e => n2 (Option.some.inj e))).trans HM.out, by rw [← List.append_assoc]; exact hd2, HDO.out.of_heap (gr.block go hos (fun e => n1 (Option.some.inj e).symm))⟩
  have HBB := hide gr
  clear hd2 gr
  go_wp2_with fail
  exact bodyPost_end (v := .tuple #[]) (by simp [results, Tryd.results14, go_sem]) rfl ⟨rfl, HFIN.out, HBB.out⟩
set_option maxRecDepth 100000 in
set_option maxHeartbeats 1600000 in
theorem c_hsums (A B : Option Addr) (n c m d : Nat) (key : List UInt8) (l : List (List UInt8)) (w : World) (hK : kU8.Row (· < w.heap.size) w A n c key) (hR : kRow8.Row (· < w.heap.size) w B m d l) (hP : PrimesAt w) :
    Calls Tryd.prog 3 #[.slice A n c, .slice B m d] w fun e w' => e = .returned (.bool true) ∧ Below w.heap.size w w' := by
  have HK := hide hK
  have HR := hide hR
  have HP := hide hP
  have HLN := hide hK.1
  have HLM := hide hR.1
  have hm63 : m ≤ 9223372036854775807 := Nat.le_trans hR.2.1 hR.2.2.1
  have hn63 : n ≤ 9223372036854775807 := Nat.le_trans hK.2.1 hK.2.2.1
  have hw0 := hP.1
  clear hK hR hP
  go_enter Tryd.func3, Tryd.ntmps3
  go_wp2_with fail
  refine (c_halive w HP.out).mono ?_
  rintro e w1 ⟨rfl, b1⟩
  have HB1 := hide b1
  have hws1 := b1.size
  clear b1
  by_cases hn200 : 200 < n
  · go_wp2_with fail
    go_ret
    exact ⟨rfl, HB1.out⟩
  by_cases hm10 : 10 < m
  · go_wp2_with fail
    go_ret
    exact ⟨rfl, HB1.out⟩
  have hn200' : n ≤ 200 := by omega
  have hm10' : m ≤ 10 := by omega
  clear hn200 hm10 hm63 hn63
  have HO0 := hide (bytes_lit w1 [] #[] rfl 0 rfl (Nat.zero_le _))
  have HK1 := hide ((HK.out.belowB HB1.out).alloc (.cells #[] 5))
  go_wp2_with (at_builtin; go_loud (refine wpList_app (d := kU8) (ok := fun _ => True) (base := w1.heap.size) rfl _ _ _ rfl Tryd.underlying22 u8_info rfl (by decide) c rfl rfl (.inl HO0.out) (src8 HK1.out.src) ?_ ?_ ?_ ?_))
  · simp
  · simp only [maxLen]; simp; omega
  · simp; omega
  intro v2 w2 _ h2 b2 _ _
  have h2 := h2 (.inr HO0.out)
  obtain ⟨A2, c2, rfl, ho2, hr2⟩ := own_cells h2
  rw [HLN.out] at ho2 hr2 ⊢
  have b2' : Below w1.heap.size w1 w2 := (below1 w1 (.cells #[] 5)).trans b2
  have HB2 := hide (HB1.out.trans (b2'.mono hws1))
  have hws2 := HB2.out.size
  have HO2 := hide ho2
  have HR2 := hide hr2
  clear h2 b2 b2' ho2 hr2 HO0 HK1
  go_wp2_with fail
  refine (c_mnew A2 n c2 key _ w2 HR2.out (HP.out.ext HB2.out) (by omega)).mono ?_
  rintro e w3 ⟨mm, rfl, hm3, b3⟩
  have HM3 := hide hm3
  have HO3 := hide (HO2.out.below b3)
  have HB3 := hide (HB2.out.trans (b3.mono hws2))
  have hws3 := b3.size
  clear hm3 b3 HR2
  go_wp2_with fail
  go_loopw [32] (fun i wr => ∃ (k : Nat), k ≤ n ∧ i = .int .i64 (k : Int) ∧ Hid (OwnB wr A2 n w1.heap.size w2.heap.size) ∧ Hid (MacAt wr w2.heap.size mm key []) ∧ wr.heap.size = w3.heap.size ∧ Hid (Below w.heap.size w wr)) (fun i _ => n - (intOf i).toNat)
  case atStart => exact ⟨0, Nat.zero_le _, rfl, HO3, HM3, rfl, HB3⟩
  case round =>
    obtain ⟨k, hk, rfl, HO, HM, hwr, HB⟩ := hrel
    by_cases hlt : k < n
    · obtain ⟨g, cur, rfl, hg1, hg2, hg, hcur⟩ := HO.out (by omega)
      obtain ⟨x, hx⟩ := hcur k hlt
      have hij := idx_own8 g n c2 k hlt
      have hce := (cell_of_row wr g k _ _ _ hg).trans hx
      have hfz := frozen_of_row wr g k _ _ hg
      obtain ⟨y, hy⟩ : ∃ y : UInt8, y = x + 1 := ⟨_, rfl⟩
      have hyy : ((x.toNat : Int) + 1) % 256 = (y.toNat : Int) := by rw [hy, UInt8.toNat_add]; simp
      have HG := hide hg
      have HC := hide hcur
      clear hg hcur hx hy
      go_wp2_with fail
      go_roundw
      case rel =>
        refine ⟨k + 1, by omega, by simp, hide fun _ => ⟨g, _, rfl, hg1, hg2, heap_setCell_at _ HG.out, fun i hi => ?_⟩, hide (HM.out.keep fun j hj => Below.heap_setCell _ _ _ _ (show ¬ j = g from fun e => by omega)), by simp only [size_setCell]; exact hwr, hide (bsetCell HB.out (by omega) _ _)⟩
        rw [Array.getElem?_setIfInBounds]
        split
        · rename_i e
          obtain ⟨x', hx'⟩ := HC.out k hlt
          rw [if_pos (Array.getElem?_eq_some_iff.1 hx').1]
          first | exact ⟨y, rfl⟩ | exact ⟨y, congrArg (fun z => some (Value.int .u8 z)) hyy⟩
        · exact HC.out i hi
      case measure => simp [intOf]; omega
    · obtain rfl : n = k := by omega
      clear HO HO3 HM3 HB3 hk hlt HO2
      obtain ⟨gi, go, hmp, n1, n2, n3, q1, q2, q3, s1, s2, s3⟩ := HM.out.parts
      have HMP := hide (hmp.belowB (Below.refl _ _ |>.alloc (Nat.le_refl _) (.cells #[] 5)) s1 s2 s3)
      have HB4 := hide (HB.out.trans ((below1 wr (.cells #[] 5)).mono HB.out.size))
      have HOA := hide (bytes_lit wr [] #[] rfl 0 rfl (Nat.zero_le _))
      have hwr0 := HB.out.size
      obtain ⟨NA, hNA⟩ : ∃ NA, NA = wr.heap.size := ⟨_, rfl⟩
      have hNA1 : NA ≤ (wr.alloc (.cells #[] 5)).heap.size := by rw [hNA, World.size_alloc]; exact Nat.le_succ _
      have HOA' : Hid (kU8.Own (fun _ => True) NA (wr.alloc (.cells #[] 5)) 5 (.slice (some ⟨wr.heap.size, 0, none⟩) 0 0) []) := hide (by rw [hNA]; exact HOA.out)
      rw [← hNA] at s1 s2 s3 hwr0
      clear hmp HOA hNA hwr HM
      go_wp2_with fail
      go_loopw [8, 45] (fun v i wr => ∃ (k : Nat), k ≤ m ∧ i = .int .i64 (k : Int) ∧ Hid (kU8.Own (fun _ => True) NA wr 5 v (l.take k).flatten) ∧ Hid (MacP wr mm gi go key (l.take k).flatten) ∧ NA ≤ wr.heap.size ∧ (l.take k).flatten.length ≤ 150 * k ∧ Hid (Below w.heap.size w wr)) (fun _ i _ => m - (intOf i).toNat)
      case atStart => exact ⟨0, Nat.zero_le _, rfl, HOA', HMP, hNA1, Nat.zero_le _, HB4⟩
      case round =>
        clear HMP HB4 HOA' hNA1 HB
        obtain ⟨k, hk, rfl, HV, HM, hwr, hlen, HB⟩ := hrel
        by_cases hlt : k < m
        · obtain ⟨x, hx⟩ : ∃ x, l[k]? = some x := ⟨_, List.getElem?_eq_getElem (by have := HLM.out; omega)⟩
          obtain ⟨q, o, cs, hix, -, hbl, hKx, hra⟩ := (HR.out.belowB HB.out).index (P := Tryd.prog) Tryd.underlying23 (E := 22) bytes_info hx
          obtain ⟨A5, n5, c5, rfl, hr5⟩ := hKx
          have HR5 := hide hr5
          have hce : wr.cell? ⟨q, o, none⟩ = some (.slice A5 n5 c5) := by simpa using hra 0 _ rfl
          have HTK := hide (flat_take_succ hx)
          have hl5 : x.length = n5 := hr5.1
          have hn563 : n5 ≤ 9223372036854775807 := Nat.le_trans hr5.2.1 hr5.2.2.1
          clear hx hra hr5
          by_cases h150 : 150 < n5
          · go_wp2_with fail
            go_ret
            exact ⟨rfl, HB.out⟩
          obtain ⟨L, hL⟩ : ∃ L, L = (l.take k).flatten := ⟨_, rfl⟩
          rw [← hL] at HTK HV HM hlen
          have hle5 : n5 ≤ 150 := by omega
          clear hL h150 hn563
          obtain ⟨AV, cV, hvf⟩ := HV.out.form
          rw [hvf] at HV ⊢
          clear hvf
          go_wp2_with (at_builtin; go_loud (refine wpList_app (d := kU8) (ok := fun _ => True) (base := NA) rfl _ _ _ rfl Tryd.underlying22 u8_info rfl (by decide) c5 rfl rfl (.inl HV.out) (src8 HR5.out.src) ?_ ?_ ?_ ?_))
          · exact hwr
          · simp only [maxLen]; omega
          · omega
          intro v6 w6 _ h6 b6 _ _
          have h6 := h6 (.inr HV.out)
          obtain ⟨xs, hxs⟩ : ∃ xs, xs = L ++ x := ⟨_, rfl⟩
          have hxl : xs.length ≤ 150 * (k + 1) := by rw [hxs, List.length_append]; omega
          rw [← hxs] at h6 HTK
          have HOF : Hid (kU8.Own (fun _ => False) NA w6 5 v6 xs) := hide (own8 h6)
          have HM6 := hide (HM.out.belowB b6 s1 s2 s3)
          have HR6 := hide (HR5.out.belowB (b6.mono hwr0))
          have HB6 := hide (HB.out.trans (b6.mono hwr0))
          have HXS := hide hxs
          have hw6 : NA ≤ w6.heap.size := Nat.le_trans hwr b6.size
          clear h6 b6 hxs HR5 HM HV hix hce
          go_wp2_with fail
          refine (c_mwrite2 mm gi go key L x A5 n5 c5 _ w6 HM6.out n1 n2 HR6.out (fun j hj => by omega) (HP.out.ext HB6.out) (by omega) (by omega)).mono ?_
          rintro e w7 ⟨rfl, hm7, gr7⟩
          rw [← HXS.out] at hm7
          have HM7 := hide hm7
          have HO7 : Hid (kU8.Own (fun _ => False) NA w7 5 v6 xs) := hide (HOF.out.keep fun j hj1 hj2 => gr7.block j hj1 (fun e => by
            rcases hj2 with h | h
            · exact h
            · have := (HOF.out.base_le j h.symm).1
              have := Option.some.inj e
              omega))
          have HB7 := hide (HB6.out.trans (below_of_grown (B := w.heap.size) gr7 HB6.out.size (by omega)))
          have hw7 : NA ≤ w7.heap.size := Nat.le_trans hw6 gr7.size
          clear hm7 gr7 HOF HM6 HR6 hw6 HXS hlen
          go_wp2_with fail
          refine (c_msum 0 mm key xs w7 (HM7.out.at n1 n2 n3) (HP.out.ext HB7.out) (by omega)).mono ?_
          obtain ⟨t, htt⟩ : ∃ t, t = macT key xs := ⟨_, rfl⟩
          rw [← htt]
          have HTT : Hid (macT key xs = t) := hide htt.symm
          have HMT : Hid (mac key xs = t.l) := hide (by rw [htt]; rfl)
          clear htt
          rintro e w8 ⟨rfl, b8⟩
          have HB8 := hide (HB7.out.trans (b8.mono HB7.out.size))
          have HO8 := hide (HO7.out.below b8)
          have HM8 := hide (HM7.out.belowB (b8.mono hw7) s1 s2 s3)
          have hw8 : NA ≤ w8.heap.size := Nat.le_trans hw7 b8.size
          clear b8 HO7 HM7 HB7 hw7
          go_wp2_with fail
          obtain ⟨A8, c8, rfl, hr8⟩ := own_row HO8.out
          obtain ⟨n8, hn8⟩ : ∃ n8, n8 = xs.length := ⟨_, rfl⟩
          rw [← hn8] at hr8 ⊢
          have hn8' : n8 < 1073741824 := by omega
          have HXL : Hid (xs.length ≤ 1500) := hide (by omega)
          have HN8 := hide hn8
          clear hn8
          obtain ⟨b9, hb9⟩ : ∃ b9, b9 = w8.heap.size := ⟨_, rfl⟩
          obtain ⟨w9, hw9⟩ : ∃ w9, w9 = w8.alloc (.cells (tgC t) 29) := ⟨_, rfl⟩
          have b89 : Below w8.heap.size w8 w9 := by rw [hw9]; exact below1 _ _
          have HTB : Hid (w9.heap[b9]? = some (.cells (tgC t) 29)) := hide (by rw [hw9, hb9]; exact heap_alloc_new _ _)
          have HTR : Hid (kU8.Row (fun _ => True) w9 (some ⟨b9, 0, none⟩) 32 32 t.l) := hide (by
            have h := HTB.out
            rw [tgC_bl] at h
            have := row_all (ok := fun _ => True) h trivial (by rw [t.len]; decide)
            rwa [t.len] at this)
          have HAR := hide (hr8.below b89)
          have HB9 := hide (HB8.out.trans (b89.mono HB8.out.size))
          have HKR := hide (HK.out.belowB HB9.out)
          have HM9 := hide (HM8.out.belowB (b89.mono hw8) s1 s2 s3)
          have HMA := hide (HM9.out.at n1 n2 n3)
          have HPR := hide (HP.out.ext HB9.out)
          have HO9 := hide (HO8.out.below b89)
          have hw9s : NA ≤ w9.heap.size := Nat.le_trans hw8 b89.size
          rw [← hb9, ← hw9]
          clear hb9 hw9 b89 hr8 HM8 HO8 HB8 hw8
          refine wp_region_ext mixed 13 (fun i v w' => match i with
            | 0 => v = .slice (some ⟨b9, 0, none⟩) 32 32
            | 1 => v = .string (txt t.l)
            | 2 => v = .slice A n c
            | 3 => v = .slice A8 n8 c8
            | 4 => ∃ A c, v = .slice A 32 c ∧ kU8.Row (fun _ => True) w' A 32 c t.l
            | 5 => v = .string (txt t.l)
            | 6 => v = .bool false
            | 7 => v = .bool false
            | 8 => v = .pointer (some ⟨mm, 0, none⟩)
            | 9 => v = tgV t
            | 10 => v = tgV t
            | 11 => v = .bool false
            | _ => v = .bool false
            ) (regOk_of (by kernel_rfl)) rfl ?_ ?_ ?_
          · intro i v w1 w2 h1 h2
            split at h2 <;> first | exact h2 | (obtain ⟨A, c, e, hr⟩ := h2; exact ⟨A, c, e, hr.below h1⟩)
          · refine ⟨fun a w2 hle hd hf hs K hK => ?_, fun a w2 hle hd hf hs K hK => ?_, fun a w2 hle hd hf hs K hK => ?_, fun a w2 hle hd hf hs K hK => ?_, fun a w2 hle hd hf hs K hK => ?_, fun a w2 hle hd hf hs K hK => ?_, fun a w2 hle hd hf hs K hK => ?_, fun a w2 hle hd hf hs K hK => ?_, fun a w2 hle hd hf hs K hK => ?_, fun a w2 hle hd hf hs K hK => ?_, fun a w2 hle hd hf hs K hK => ?_, fun a w2 hle hd hf hs K hK => ?_, fun a w2 hle hd hf hs K hK => ?_, trivial⟩
            all_goals clear hd
            · -- 60 := Op.slice 29 t11 none none none
              have e11 := hf 11 rfl; simp [Act.eval] at e11
              go_simp; exact hK _ _ (Ext.refl _) rfl
            · -- 61 := Op.convert 22 9 t60
              have e60 := hs 0 60 (needs_direct (by kernel_rfl)) rfl; simp [Act.eval] at e60
              have hq := row_string (P := Tryd.prog) Tryd.underlying22 Tryd.underlying5 Tryd.underlying9 (HTR.out.below hle)
              go_simp; exact hK _ _ (Ext.refl _) rfl
            · -- 62 := Op.move t0
              have e0 := hf 0 rfl; simp [Act.eval] at e0
              go_simp; exact hK _ _ (Ext.refl _) rfl
            · -- 63 := Op.move t8
              have e8 := hf 8 rfl; simp [Act.eval] at e8
              go_simp; exact hK _ _ (Ext.refl _) rfl
            · -- 64 := Op.call { value (Operand.func 16), args := #[t62, t63], argTypes := #[22, 22] }
              have e62 := hs 2 62 (needs_direct (by kernel_rfl)) rfl; have e63 := hs 3 63 (needs_direct (by kernel_rfl)) rfl; simp [Act.eval] at e62 e63
              go_simp
              refine (c_rmac A A8 n c n8 c8 key xs _ _ w2 (HKR.out.below hle) (HAR.out.below hle) (by omega) (by omega)).mono ?_
              rintro z w9 ⟨v9, rfl, h9, b9⟩
              obtain ⟨A9, c9, rfl, hr9⟩ := own_row h9
              rw [HMT.out, t.len] at hr9
              rw [HMT.out, t.len]
              exact hK _ _ b9 ⟨A9, c9, rfl, hr9.more fun _ _ => trivial⟩
            · -- 65 := Op.convert 22 9 t64
              obtain ⟨A64, c64, e64, hr64⟩ := hs 4 64 (needs_direct (by kernel_rfl)) rfl; simp [Act.eval] at e64
              have hq := row_string (P := Tryd.prog) Tryd.underlying22 Tryd.underlying5 Tryd.underlying9 hr64
              go_simp; exact hK _ _ (Ext.refl _) rfl
            · -- 66 := Op.binOp BinOp.neq 9 t61 t65 9
              have e61 := hs 1 61 (needs_direct (by kernel_rfl)) rfl; have e65 := hs 5 65 (needs_direct (by kernel_rfl)) rfl; simp [Act.eval] at e61 e65
              go_simp; exact hK _ _ (Ext.refl _) rfl
            · -- 67 := Op.move t66
              have e66 := hs 6 66 (needs_direct (by kernel_rfl)) rfl; simp [Act.eval] at e66
              go_simp; exact hK _ _ (Ext.refl _) rfl
            · -- 68 := Op.move t6
              have e6 := hf 6 rfl; have gg := hs 7 67 (needs_direct (by kernel_rfl)) rfl; simp [Act.eval] at e6 gg; replace gg := opt_bool gg
              go_simp; exact hK _ _ (Ext.refl _) rfl
            · -- 69 := Op.call { value (Operand.func 15), args := #[t68], argTypes := #[25] }
              have e68 := hs 8 68 (needs_direct (by kernel_rfl)) rfl; have gg := hs 7 67 (needs_direct (by kernel_rfl)) rfl; simp [Act.eval] at e68 gg; replace gg := opt_bool gg
              go_simp
              refine (c_msum 0 mm key xs w2 (HMA.out.ext hle) (HPR.out.ext hle) (by have := HXL.out; omega)).mono ?_
              rintro z w9 ⟨rfl, b9⟩
              rw [HTT.out]
              exact hK _ _ b9 rfl
            · -- 70 := Op.load 29 t11
              have e11 := hf 11 rfl; have gg := hs 7 67 (needs_direct (by kernel_rfl)) rfl; simp [Act.eval] at e11 gg; replace gg := opt_bool gg
              have hq : agg? w2 ⟨b9, 0, none⟩ 32 = some (tgC t) := (agg_of_row (hle.heap HTB.out) 0 32 (by decide)).trans (tgC_part t)
              go_simp; exact hK _ _ (Ext.refl _) rfl
            · -- 71 := Op.binOp BinOp.neq 29 t69 t70 29
              have e69 := hs 9 69 (needs_direct (by kernel_rfl)) rfl; have e70 := hs 10 70 (needs_direct (by kernel_rfl)) rfl; have gg := hs 7 67 (needs_direct (by kernel_rfl)) rfl; simp [Act.eval] at e69 e70 gg; replace gg := opt_bool gg
              have hq := tg_in w2 t t
              rw [decide_eq_true rfl] at hq
              go_simp; exact hK _ _ (Ext.refl _) rfl
            · -- 72 := Op.pick t67 (const (Value.bool true)) t71
              have e67 := hs 7 67 (needs_direct (by kernel_rfl)) rfl; have e71 := hs 11 71 (needs_direct (by kernel_rfl)) rfl; simp [Act.eval] at e67 e71
              go_simp; exact hK _ _ (Ext.refl _) rfl
          intro vs w10 hle hs
          have v12 := hs 12 (by omega) rfl
          simp only at v12
          clear hs
          have HBN := hide (HB9.out.trans (hle.mono HB9.out.size))
          have HMN := hide (HM9.out.belowB (hle.mono hw9s) s1 s2 s3)
          have HON : Hid (kU8.Own (fun _ => True) NA w10 5 (.slice A8 n8 c8) (l.take (k + 1)).flatten) := hide (by
            have := own8 (ok' := fun _ => True) (HO9.out.below hle)
            rw [HN8.out, HTK.out]; exact this)
          have hwN : NA ≤ w10.heap.size := Nat.le_trans hw9s hle.size
          simp only [putN, dstAt]
          go_simp
          go_wp2_with fail
          go_roundw
          case rel => exact ⟨k + 1, by omega, by simp, HON, hide (by have := HMN.out; rwa [← HTK.out] at this), hwN, by rw [HTK.out]; exact hxl, HBN⟩
          case measure => simp [intOf]; omega
        · obtain rfl : m = k := by omega
          rw [List.take_of_length_le (show l.length ≤ m by have := HLM.out; omega)] at HV HM hlen
          obtain ⟨A8, c8, hvf, hr8⟩ := own_row HV.out
          rw [hvf]
          obtain ⟨xs, hxs⟩ : ∃ xs, xs = l.flatten := ⟨_, rfl⟩
          have HLB : Hid (l.flatten.length < 576460752303423488) := hide (by omega)
          have HTX : Hid (macT key l.flatten = macT key xs) := hide (by rw [hxs])
          rw [← hxs] at hr8 HM hlen ⊢
          obtain ⟨n8, hn8⟩ : ∃ n8, n8 = xs.length := ⟨_, rfl⟩
          rw [← hn8] at hr8 ⊢
          have hn8' : n8 < 1073741824 := by omega
          have HXL : Hid (xs.length ≤ 1500) := hide (by omega)
          have HR8 := hide hr8
          clear hxs hn8 hvf HV hr8
          go_wp2_with fail
          refine (c_mof A B n c m d key l _ _ wr (HK.out.belowB HB.out) (HR.out.belowB HB.out) (HP.out.ext HB.out) (by omega) HLB.out).mono ?_
          rw [HTX.out]
          obtain ⟨t, htt⟩ : ∃ t, t = macT key xs := ⟨_, rfl⟩
          rw [← htt]
          have HTT : Hid (macT key xs = t) := hide htt.symm
          have HMT : Hid (mac key xs = t.l) := hide (by rw [htt]; rfl)
          clear htt
          rintro e w8 ⟨rfl, b8⟩
          have HB8 := hide (HB.out.trans (b8.mono HB.out.size))
          have HM8 := hide (HM.out.belowB (b8.mono hwr) s1 s2 s3)
          have hw8 : NA ≤ w8.heap.size := Nat.le_trans hwr b8.size
          have HA8 := hide (HR8.out.below b8)
          clear b8 HM HR8
          go_wp2_with fail
          obtain ⟨b9, hb9⟩ : ∃ b9, b9 = w8.heap.size := ⟨_, rfl⟩
          obtain ⟨w9, hw9⟩ : ∃ w9, w9 = w8.alloc (.cells (tgC t) 29) := ⟨_, rfl⟩
          have b89 : Below w8.heap.size w8 w9 := by rw [hw9]; exact below1 _ _
          have HTB : Hid (w9.heap[b9]? = some (.cells (tgC t) 29)) := hide (by rw [hw9, hb9]; exact heap_alloc_new _ _)
          have HTR : Hid (kU8.Row (fun _ => True) w9 (some ⟨b9, 0, none⟩) 32 32 t.l) := hide (by
            have h := HTB.out
            rw [tgC_bl] at h
            have := row_all (ok := fun _ => True) h trivial (by rw [t.len]; decide)
            rwa [t.len] at this)
          have HAR := hide (HA8.out.below b89)
          have HB9 := hide (HB8.out.trans (b89.mono HB8.out.size))
          have HKR := hide (HK.out.belowB HB9.out)
          have HM9 := hide (HM8.out.belowB (b89.mono hw8) s1 s2 s3)
          have HMA := hide (HM9.out.at n1 n2 n3)
          have HPR := hide (HP.out.ext HB9.out)
          rw [← hb9, ← hw9]
          clear hb9 hw9 b89 HA8 HM8 HB8 hw8
          refine wp_region_ext mixed 14 (fun i v w' => match i with
            | 0 => v = .slice (some ⟨b9, 0, none⟩) 32 32
            | 1 => v = .string (txt t.l)
            | 2 => v = .slice A n c
            | 3 => v = .slice A8 n8 c8
            | 4 => ∃ A c, v = .slice A 32 c ∧ kU8.Row (fun _ => True) w' A 32 c t.l
            | 5 => v = .string (txt t.l)
            | 6 => v = .bool true
            | 7 => v = .bool true
            | 8 => v = .pointer (some ⟨mm, 0, none⟩)
            | 9 => v = tgV t
            | 10 => v = tgV t
            | 11 => v = .bool true
            | 12 => v = .bool true
            | _ => v = .bool true
            ) (regOk_of (by kernel_rfl)) rfl ?_ ?_ ?_
          · intro i v w1 w2 h1 h2
            split at h2 <;> first | exact h2 | (obtain ⟨A, c, e, hr⟩ := h2; exact ⟨A, c, e, hr.below h1⟩)
          · refine ⟨fun a w2 hle hd hf hs K hK => ?_, fun a w2 hle hd hf hs K hK => ?_, fun a w2 hle hd hf hs K hK => ?_, fun a w2 hle hd hf hs K hK => ?_, fun a w2 hle hd hf hs K hK => ?_, fun a w2 hle hd hf hs K hK => ?_, fun a w2 hle hd hf hs K hK => ?_, fun a w2 hle hd hf hs K hK => ?_, fun a w2 hle hd hf hs K hK => ?_, fun a w2 hle hd hf hs K hK => ?_, fun a w2 hle hd hf hs K hK => ?_, fun a w2 hle hd hf hs K hK => ?_, fun a w2 hle hd hf hs K hK => ?_, fun a w2 hle hd hf hs K hK => ?_, trivial⟩
            all_goals clear hd
            · -- 77 := Op.slice 29 t12 none none none
              have e12 := hf 12 rfl; simp [Act.eval] at e12
              go_simp; exact hK _ _ (Ext.refl _) rfl
            · -- 78 := Op.convert 22 9 t77
              have e77 := hs 0 77 (needs_direct (by kernel_rfl)) rfl; simp [Act.eval] at e77
              have hq := row_string (P := Tryd.prog) Tryd.underlying22 Tryd.underlying5 Tryd.underlying9 (HTR.out.below hle)
              go_simp; exact hK _ _ (Ext.refl _) rfl
            · -- 79 := Op.move t0
              have e0 := hf 0 rfl; simp [Act.eval] at e0
              go_simp; exact hK _ _ (Ext.refl _) rfl
            · -- 80 := Op.move t8
              have e8 := hf 8 rfl; simp [Act.eval] at e8
              go_simp; exact hK _ _ (Ext.refl _) rfl
            · -- 81 := Op.call { value (Operand.func 16), args := #[t79, t80], argTypes := #[22, 22] }
              have e79 := hs 2 79 (needs_direct (by kernel_rfl)) rfl; have e80 := hs 3 80 (needs_direct (by kernel_rfl)) rfl; simp [Act.eval] at e79 e80
              go_simp
              refine (c_rmac A A8 n c n8 c8 key xs _ _ w2 (HKR.out.below hle) (HAR.out.below hle) (by omega) (by omega)).mono ?_
              rintro z w9 ⟨v9, rfl, h9, b9⟩
              obtain ⟨A9, c9, rfl, hr9⟩ := own_row h9
              rw [HMT.out, t.len] at hr9
              rw [HMT.out, t.len]
              exact hK _ _ b9 ⟨A9, c9, rfl, hr9.more fun _ _ => trivial⟩
            · -- 82 := Op.convert 22 9 t81
              obtain ⟨A81, c81, e81, hr81⟩ := hs 4 81 (needs_direct (by kernel_rfl)) rfl; simp [Act.eval] at e81
              have hq := row_string (P := Tryd.prog) Tryd.underlying22 Tryd.underlying5 Tryd.underlying9 hr81
              go_simp; exact hK _ _ (Ext.refl _) rfl
            · -- 83 := Op.binOp BinOp.eql 9 t78 t82 9
              have e78 := hs 1 78 (needs_direct (by kernel_rfl)) rfl; have e82 := hs 5 82 (needs_direct (by kernel_rfl)) rfl; simp [Act.eval] at e78 e82
              go_simp; exact hK _ _ (Ext.refl _) rfl
            · -- 84 := Op.move t83
              have e83 := hs 6 83 (needs_direct (by kernel_rfl)) rfl; simp [Act.eval] at e83
              go_simp; exact hK _ _ (Ext.refl _) rfl
            · -- 85 := Op.move t6
              have e6 := hf 6 rfl; have gg := hs 7 84 (needs_direct (by kernel_rfl)) rfl; simp [Act.eval] at e6 gg; replace gg := opt_bool gg
              go_simp; exact hK _ _ (Ext.refl _) rfl
            · -- 86 := Op.call { value (Operand.func 15), args := #[t85], argTypes := #[25] }
              have e85 := hs 8 85 (needs_direct (by kernel_rfl)) rfl; have gg := hs 7 84 (needs_direct (by kernel_rfl)) rfl; simp [Act.eval] at e85 gg; replace gg := opt_bool gg
              go_simp
              refine (c_msum 0 mm key xs w2 (HMA.out.ext hle) (HPR.out.ext hle) (by have := HXL.out; omega)).mono ?_
              rintro z w9 ⟨rfl, b9⟩
              rw [HTT.out]
              exact hK _ _ b9 rfl
            · -- 87 := Op.load 29 t12
              have e12 := hf 12 rfl; have gg := hs 7 84 (needs_direct (by kernel_rfl)) rfl; simp [Act.eval] at e12 gg; replace gg := opt_bool gg
              have hq : agg? w2 ⟨b9, 0, none⟩ 32 = some (tgC t) := (agg_of_row (hle.heap HTB.out) 0 32 (by decide)).trans (tgC_part t)
              go_simp; exact hK _ _ (Ext.refl _) rfl
            · -- 88 := Op.binOp BinOp.eql 29 t86 t87 29
              have e86 := hs 9 86 (needs_direct (by kernel_rfl)) rfl; have e87 := hs 10 87 (needs_direct (by kernel_rfl)) rfl; have gg := hs 7 84 (needs_direct (by kernel_rfl)) rfl; simp [Act.eval] at e86 e87 gg; replace gg := opt_bool gg
              have hq := tg_in w2 t t
              rw [decide_eq_true rfl] at hq
              go_simp; exact hK _ _ (Ext.refl _) rfl
            · -- 89 := Op.pick t84 t88 (const (Value.bool false))
              have e84 := hs 7 84 (needs_direct (by kernel_rfl)) rfl; have e88 := hs 11 88 (needs_direct (by kernel_rfl)) rfl; simp [Act.eval] at e84 e88
              go_simp; exact hK _ _ (Ext.refl _) rfl
            · -- 4 := Op.assign t89
              have e89 := hs 12 89 (needs_direct (by kernel_rfl)) rfl; simp [Act.eval] at e89
              go_simp; exact hK _ _ (Ext.refl _) rfl
          intro vs w10 hle hs
          have v13 := hs 13 (by omega) rfl
          simp only at v13
          clear hs
          have HBN := hide (HB9.out.trans (hle.mono HB9.out.size))
          simp only [putN, dstAt]
          go_simp
          go_wp2_with fail
          go_ret
          exact ⟨rfl, HBN.out⟩
end Go.Proofs.YtdkeflhgengblaaDoor
