/- Layer 16: a text's names: lex.Names. No condition. -/
import Derived.Test.YtckcadhjpjjmjaaDoorLx2
namespace Go.Proofs.YtckcadhjpjjmjaaDoor
open Go.RowKit
theorem spl_le (c : UInt8) : ∀ (s : List UInt8), ∀ p ∈ spl c s, p.length ≤ s.length
  | [], p, hp => by
    have : p = [] := by simpa [spl] using hp
    rw [this]; exact Nat.zero_le _
  | b :: t, p, hp => by
    have ih := spl_le c t
    unfold spl at hp
    split at hp
    · rcases List.mem_cons.1 hp with rfl | hp
      · exact Nat.zero_le _
      · have := ih p hp; rw [List.length_cons]; omega
    · split at hp
      · rename_i h0; exact absurd h0 (spl_ne c t)
      · rename_i h r h0
        rcases List.mem_cons.1 hp with rfl | hp
        · have := ih h (by rw [h0]; exact List.mem_cons_self); rw [List.length_cons, List.length_cons]; omega
        · have := ih p (by rw [h0]; exact List.mem_cons_of_mem _ hp); rw [List.length_cons]; omega
theorem split_eq (c : UInt8) (x : List UInt8) : Lib.splitB ⟨#[c]⟩ 0 (Lib.countB (txt x) ⟨#[c]⟩) (txt x) = (spl c x).map txt := by
  have hk : Lib.countB (txt x) ⟨#[c]⟩ = x.count c := Lib.count_one c x
  have h := Lib.splitB_data ⟨#[c]⟩ 0 (Lib.countB (txt x) ⟨#[c]⟩) (txt x)
  have h2 : (Lib.splitB ⟨#[c]⟩ 0 (Lib.countB (txt x) ⟨#[c]⟩) (txt x)).map (·.data.toList) = spl c x := h.trans (splK c _ _ hk.symm)
  rw [← h2, List.map_map]
  conv => lhs; rw [← List.map_id (Lib.splitB _ _ _ _)]
  exact List.map_congr_left fun s _ => (txt_byt s).symm
theorem count_eq (c : UInt8) (x : List UInt8) : Lib.countB (txt x) ⟨#[c]⟩ + 1 = (spl c x).length := by
  rw [spl_len]
  exact congrArg (· + 1) (Lib.count_one c x)
set_option maxRecDepth 100000 in
set_option maxHeartbeats 3200000 in
theorem c_lnames (x0 : List UInt8) (m : Int) (w : World) (hx0 : x0.length ≤ 1000000) (hm : w.cell? ⟨5, 0, none⟩ = some (.int .i64 m)) :
    Calls Tryd.prog 13 #[.string (txt x0)] w (NamesR w (namesB geS x0)) := by
  have hS := Tryd.strings_Split (txt x0) ⟨#[44]⟩ m w (by rw [txt_size]; omega) hm (by decide)
  rw [count_eq, split_eq] at hS
  obtain ⟨l, hl0⟩ : ∃ l, spl 44 x0 = l := ⟨_, rfl⟩
  rw [hl0] at hS
  have hsz : ∀ s ∈ l.map txt, s.size ≤ maxLen := by
    intro s hs
    obtain ⟨p, hp, rfl⟩ := List.mem_map.1 hs
    have := spl_le 44 x0 p (by rw [hl0]; exact hp)
    rw [txt_size]; simp only [maxLen]; omega
  have hcnt : l.length ≤ 1000001 := by
    rw [← hl0, spl_len]; have := List.count_le_length (a := (44 : UInt8)) (l := x0); omega
  obtain ⟨n, hl⟩ : ∃ n, l.length = n := ⟨_, rfl⟩
  rw [hl] at hS hcnt
  have hn1 : 1 ≤ n := by rw [← hl, ← hl0, spl_len]; omega
  have HNB : Hid (namesB geS x0 = if riseB geS l = true then some l else none) := hide (by rw [namesB, hl0])
  obtain ⟨w1, hw1⟩ : ∃ w1, w1 = w.alloc (.cells ((l.map txt).map Value.string).toArray 9) := ⟨_, rfl⟩
  have HR : Hid (kStr.Row (fun k => w.heap.size ≤ k) w1 (some ⟨w.heap.size, 0, none⟩) n n (l.map txt)) := hide (by
    have h := strs_row (w := w1) (g := w.heap.size) (l.map txt) (by rw [hw1]; exact heap_alloc_new _ _) (by simp) hsz (by rw [List.length_map, hl]; simp only [maxLen]; omega)
    rw [List.length_map, hl] at h
    refine ⟨h.1, h.2.1, h.2.2.1, fun hn => ?_⟩
    obtain ⟨b, o, e, -, h4, h5⟩ := h.2.2.2 hn
    have eb : b = w.heap.size := by injection e with e; injection e with e1 _; exact e1.symm
    exact ⟨b, o, e, by rw [eb]; exact Nat.le_refl _, h4, fun i y hy => let ⟨cs, h6, h7⟩ := h5 i y hy; ⟨cs, h6, h7⟩⟩)
  have HB1 : Hid (Below w.heap.size w w1) := hide (by rw [hw1]; exact (Below.refl _ _).alloc (Nat.le_refl _) _)
  have hs1 : w1.heap.size = w.heap.size + 1 := by rw [hw1]; simp only [World.size_alloc]
  rw [← hw1] at hS
  have HS0 := hide hS
  have HL := hide hl
  clear hm hx0 hl0 hsz hw1 hS hl
  by_cases h32 : 32 < n
  · have h32' : (32 : Int) < n := by omega
    have HE : Hid (namesB geS x0 = none) := hide (by rw [HNB.out, show riseB geS l = false from by rw [riseB, HL.out, decide_eq_true (by omega), decide_eq_false (by omega)]; rfl]; rfl)
    clear HNB
    go_enter Tryd.func13, Tryd.ntmps13
    go_wp2_with fail
    refine HS0.out.mono ?_
    rintro e w2 ⟨rfl, rfl⟩
    go_wp2_with fail
    exact bodyPost_ret (v := .tuple #[.slice none 0 0, .bool false]) (by simp [results, Tryd.results13, go_sem]) rfl ⟨none, 0, 0, by rw [HE.out]; rfl, by rw [HE.out]; exact .nil _ _ _ _ _ (Nat.zero_le _), HB1.out⟩
  · have h32' : ¬ (32 : Int) < n := by omega
    go_enter Tryd.func13, Tryd.ntmps13
    go_wp2_with fail
    refine HS0.out.mono ?_
    rintro e w2 ⟨rfl, rfl⟩
    go_wp2_with fail
    go_loopw [14] (fun i wr => ∃ k : Nat, k ≤ n ∧ i = .int .i64 (k : Int) ∧ Hid (rises geS (prevO l k) (l.drop k) = rises geS none l) ∧ Hid (Below w2.heap.size w2 wr)) (fun i _ => n - (intOf i).toNat)
    case atStart => exact ⟨0, Nat.zero_le _, rfl, hide rfl, hide (Below.refl _ _)⟩
    case round =>
      obtain ⟨k, hk, rfl, HT, HB⟩ := hrel
      have HRw := hide (HR.out.below HB.out)
      by_cases hlt : k < n
      · obtain ⟨x, hx⟩ : ∃ x, l[k]? = some x := ⟨_, List.getElem?_eq_getElem (by have := HL.out; omega)⟩
        have hx2 : (l.map txt)[k]? = some (txt x) := by rw [List.getElem?_map, hx]; rfl
        obtain ⟨p, o, hix, hcx, -, hsx⟩ := row_str (h := HRw.out) hx2
        have HS := hide (rises_step hx)
        cases hnm : isNm x with
        | false =>
          have HE : Hid (riseB geS l = false) := hide (by rw [(show riseB geS l = rises geS none l from by rw [riseB, HL.out, decide_eq_true (by omega), decide_eq_true (by omega)]; rfl), ← HT.out, HS.out, hnm]; rfl)
          have HN := hide hnm
          clear hx hx2 hnm
          go_wp2_with fail
          refine (c_lname (txt x) wr).mono ?_
          rintro e w5 ⟨rfl, b5⟩
          rw [byt_txt, HN.out]
          go_wp2_with fail
          exact bodyPost_ret (v := .tuple #[.slice none 0 0, .bool false]) (by simp [results, Tryd.results13, go_sem]) rfl ⟨none, 0, 0, by rw [HNB.out, HE.out]; rfl, by rw [HNB.out, HE.out]; exact .nil _ _ _ _ _ (Nat.zero_le _), HB1.out.trans ((HB.out.trans (b5.mono HB.out.size)).mono (by omega))⟩
        | true =>
          have HN := hide hnm
          by_cases h0 : k = 0
          · subst h0
            have hix0 : ∀ wx : World, (Instr.indexAt 22 (.slice (some ⟨w.heap.size, 0, none⟩) n n) (.int .i64 0)).run Tryd.prog wx = .ok (.pointer (some ⟨p, o, none⟩)) wx := hix
            clear hix
            have HT2 : Hid (rises geS (prevO l 1) (l.drop 1) = rises geS none l) := hide (by rw [← HT.out, HS.out, hnm]; simp [prevO])
            clear hx hx2 hnm
            go_wp2_with fail
            refine (c_lname (txt x) wr).mono ?_
            rintro e w5 ⟨rfl, b5⟩
            rw [byt_txt, HN.out]
            go_wp2_with fail
            go_roundw
            case rel => exact ⟨1, by omega, by simp, HT2, hide (HB.out.trans (b5.mono HB.out.size))⟩
            case measure => simp [intOf]; omega
          · have h0' : (0 : Int) < (k : Int) := by omega
            obtain ⟨q, hq⟩ : ∃ q, l[k - 1]? = some q := ⟨_, List.getElem?_eq_getElem (by have := HL.out; omega)⟩
            have hp : prevO l k = some q := by
              obtain ⟨j, rfl⟩ : ∃ j, k = j + 1 := ⟨k - 1, by omega⟩
              exact hq
            have hq2 : (l.map txt)[k - 1]? = some (txt q) := by rw [List.getElem?_map, hq]; rfl
            obtain ⟨p2, o2, hiy, hcy, hb2, -⟩ := row_str (h := HRw.out) hq2
            have hk1 : ((k - 1 : Nat) : Int) = (k : Int) - 1 := by omega
            rw [hk1] at hiy
            cases hge : geS q x with
            | true =>
              have HE : Hid (riseB geS l = false) := hide (by rw [(show riseB geS l = rises geS none l from by rw [riseB, HL.out, decide_eq_true (by omega), decide_eq_true (by omega)]; rfl), ← HT.out, HS.out, hnm, hp]; simp [hge])
              have hg : Op.bytesLess q x = false := by simpa [geS] using hge
              clear hx hx2 hnm hq hq2 hp hge
              go_wp2_with fail
              refine (c_lname (txt x) wr).mono ?_
              rintro e w5 ⟨rfl, b5⟩
              rw [byt_txt, HN.out]
              have hcy5 := (World.cell?_of_block (a := ⟨p2, o2, none⟩) (b5.block _ hb2)).trans hcy
              go_wp2_with fail
              exact bodyPost_ret (v := .tuple #[.slice none 0 0, .bool false]) (by simp [results, Tryd.results13, go_sem]) rfl ⟨none, 0, 0, by rw [HNB.out, HE.out]; rfl, by rw [HNB.out, HE.out]; exact .nil _ _ _ _ _ (Nat.zero_le _), HB1.out.trans ((HB.out.trans (b5.mono HB.out.size)).mono (by omega))⟩
            | false =>
              have HT2 : Hid (rises geS (prevO l (k + 1)) (l.drop (k + 1)) = rises geS none l) := hide (by rw [← HT.out, HS.out, hnm, hp]; simp [hge])
              have hg : Op.bytesLess q x = true := by simpa [geS] using hge
              clear hx hx2 hnm hq hq2 hp hge
              go_wp2_with fail
              refine (c_lname (txt x) wr).mono ?_
              rintro e w5 ⟨rfl, b5⟩
              rw [byt_txt, HN.out]
              have hcy5 := (World.cell?_of_block (a := ⟨p2, o2, none⟩) (b5.block _ hb2)).trans hcy
              go_wp2_with fail
              go_roundw
              case rel => exact ⟨k + 1, by omega, by simp, HT2, hide (HB.out.trans (b5.mono HB.out.size))⟩
              case measure => simp [intOf]; omega
      · obtain rfl : k = n := by omega
        have HE : Hid (riseB geS l = true) := hide (by rw [riseB, HL.out, decide_eq_true (by omega), decide_eq_true (by omega), ← HT.out, List.drop_eq_nil_of_le (Nat.le_of_eq HL.out)]; simp [rises])
        go_wp2_with fail
        exact bodyPost_ret (v := .tuple #[.slice (some ⟨w.heap.size, 0, none⟩) k k, .bool true]) (by simp [results, Tryd.results13, go_sem]) rfl ⟨some ⟨w.heap.size, 0, none⟩, k, k, by rw [HNB.out, HE.out]; rfl, by rw [HNB.out, HE.out]; exact HRw.out, HB1.out.trans (HB.out.mono HB1.out.size)⟩
end Go.Proofs.YtckcadhjpjjmjaaDoor
