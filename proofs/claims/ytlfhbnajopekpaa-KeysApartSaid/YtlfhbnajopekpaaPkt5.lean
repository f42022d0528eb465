/- The walks of layer 10: whether a token can be; its bytes read. No condition. -/
import Derived.Test.YtlfhbnajopekpaaPkt4
namespace Go.Proofs.Ytlfhbnajopekpaa
open Go.RowKit
attribute [local go_sem ↓] ld16 ld17 ld32 ld36
attribute [local go_sem] run_ldAgg run_storeAgg agg_alloc_at agg_alloc_past agg_drew agg_setCell row_alloc_at row_alloc_past row_drew setRow_alloc_at setRow_alloc_past setRow_drew tgC_size tgC_one tgC_part tgC_splice tokC_size tokC_0 tokC_1 tokC_2 tokC_3 tokC_g0 tokC_g1 tokC_g2 tokC_g3 tokC_part tokC_tag tokC_set0 tokC_set1 tokC_set2 tokC_set3 tokC_splice tokC_splice0 tgC_splice_any zero_tg zero_tok tokC_one

/-- 32 bytes as a tag. -/
def tagOf (l : List UInt8) : Option Tg := if h : l.length = 32 then some ⟨l, h⟩ else none
def tagV : Option Tg → Value
  | none => .tuple #[tgV Tg.zero, .bool false]
  | some t => .tuple #[tgV t, .bool true]
set_option maxRecDepth 100000 in
theorem c_tagof (A : Option Addr) (n c : Nat) (xs : List UInt8) (ok : Nat → Prop) (w : World) (hR : kU8.Row ok w A n c xs) :
    Calls Try.prog 67 #[.slice A n c] w fun e w' => e = .returned (tagV (tagOf xs)) ∧ Below w.heap.size w w' := by
  have hl := hR.1
  by_cases h32 : n = 32
  · subst h32
    have HT : Hid (tagOf xs = some ⟨xs, hl⟩) := hide (by rw [tagOf, dif_pos hl])
    obtain ⟨b, o, rfl, -, hb, hc⟩ := row_bytes hR (by decide)
    have hag : agg? w ⟨b, o, none⟩ 32 = some (tgC ⟨xs, hl⟩) := agg_range (cs := xs.map bv) (fun j v hv => by
      rw [List.getElem?_map] at hv
      obtain ⟨x, hx, rfl⟩ := Option.map_eq_some_iff.1 hv
      exact hc j x hx) 32 (by simpa using hl)
    generalize (⟨xs, hl⟩ : Tg) = t at hag HT
    have hap : ∀ wx : World, (Instr.arrayAt 44 (.slice (some ⟨b, o, none⟩) 32 c)).run Try.prog wx = .ok (.pointer (some ⟨b, o, none⟩)) wx := fun wx => by simp [Instr.arrayAt, run_underlying Try.underlying44]
    clear hR hc hl
    go_enter Try.func67, Try.ntmps67
    go_wp2_with fail
    exact bodyPost_ret (v := .tuple #[tgV t, .bool true]) (by simp [results, Try.results67, go_sem]) rfl ⟨by rw [HT.out]; rfl, below1 _ _⟩
  · have HT : Hid (tagOf xs = none) := hide (by rw [tagOf, dif_neg (by rw [hl]; exact h32)])
    clear hR hl
    go_enter Try.func67, Try.ntmps67
    go_wp2_with fail
    exact bodyPost_ret (v := .tuple #[tgV Tg.zero, .bool false]) (by simp [results, Try.results67, go_sem]) rfl ⟨by rw [HT.out]; rfl, below1 _ _⟩

theorem nil_iff (s : ByteArray) : s.toList = [] ↔ s = ByteArray.empty := by
  have h : ByteArray.empty.toList = [] := by rw [ByteArray.toList_eq]; rfl
  rw [← h]
  exact bytes_inj _ _
theorem cav_mk {x : Cav} {a : Bool} {b d e : ByteArray} {c : Nat} : x = ⟨a, b, c, d, e⟩ ↔ x.third = a ∧ x.text = b ∧ x.party = c ∧ x.id = d ∧ x.vault = e := by
  cases x
  simp
/-- Can a caveat be? -/
def canC (c : Cav) : Bool := if c.third then decide (c.text = ByteArray.empty) && decide (c.id.size ≤ 1024) && decide (c.vault.size ≤ 1024) else decide (c.text.size ≤ 512) && decide (c = ⟨false, c.text, 0, ByteArray.empty, ByteArray.empty⟩)
/-- Can a token be? -/
def checkT (t : Tok) : Bool := decide (t.id.size ≤ 1024) && decide (t.cavs.length ≤ 64) && t.cavs.all canC
set_option maxRecDepth 100000 in
theorem c_can (x : Cav) (w : World) : Calls Try.prog 74 #[cavV x] w fun e w' => e = .returned (.bool (canC x)) ∧ Below w.heap.size w w' := by
  cases h3 : x.third with
  | true =>
    unfold cavV
    rw [h3]
    have H3 := hide h3
    clear h3
    go_enter Try.func74, Try.ntmps74
    go_wp2_with fail
    all_goals go_ret
    all_goals refine ⟨congrArg (fun b => Ending.returned (.bool b)) (?_ : _ = canC x), below1 _ _⟩
    all_goals simp_all [canC, H3.out, ← nil_iff]
    all_goals first | omega | (rw [Bool.eq_iff_iff]; simp; omega)
  | false => 
    unfold cavV
    rw [h3]
    have H3 := hide h3
    clear h3
    go_enter Try.func74, Try.ntmps74
    go_wp2_with fail
    all_goals go_ret
    all_goals refine ⟨congrArg (fun b => Ending.returned (.bool b)) (?_ : _ = canC x), below1 _ _⟩
    all_goals simp_all [canC, H3.out, ← nil_iff, cav_mk]
    all_goals first | omega | (rw [Bool.eq_iff_iff]; simp; omega)
def errV (b : Bool) : Value := .int .i64 (if b then 0 else 1)
set_option maxRecDepth 100000 in
theorem c_cannot (x : Cav) (w : World) : Calls Try.prog 73 #[cavV x] w fun e w' => e = .returned (.bool (!canC x)) ∧ Below w.heap.size w w' := by
  go_enter Try.func73, Try.ntmps73
  go_wp2_with fail
  refine (c_can x _).mono ?_
  rintro e w1 ⟨rfl, b1⟩
  have HB := hide (bnext (below1 _ _) b1)
  clear b1
  go_wp2_with fail
  go_ret
  exact ⟨rfl, HB.out⟩
/-- Where the first caveat lies that can't be. -/
def firstBad (l : List Cav) : Int := match l.findIdx? (fun c => !canC c) with | some k => (k : Int) | none => -1
set_option maxRecDepth 100000 in
set_option maxHeartbeats 400000 in
theorem c_index (A : Option Addr) (n c : Nat) (l : List Cav) (ok : Nat → Prop) (w : World) (hR : kCav.Row ok w A n c l) :
    Calls Try.prog 88 #[.slice A n c, .func (.func 73) #[] #[]] w fun e w' => (∃ i : Int, e = .returned (.int .i64 i) ∧ (0 ≤ i ↔ l.all canC = false)) ∧ Below w.heap.size w w' := by
  have HL := hide hR.1
  have hm : n ≤ 9223372036854775807 := Nat.le_trans hR.2.1 hR.2.2.1
  have HR := hide hR
  clear hR
  go_enter Try.func88, Try.ntmps88
  go_wp2
  go_loopw [8] (fun i wr => ∃ k : Nat, k ≤ n ∧ i = .int .i64 (k : Int) ∧ Hid ((l.take k).all canC = true) ∧ Hid (Below w.heap.size w wr)) (fun i _ => n - (intOf i).toNat)
  case atStart => exact ⟨0, Nat.zero_le _, rfl, hide rfl, hide (Below.refl _ _)⟩
  case round =>
    obtain ⟨k, hk, rfl, HA, HB⟩ := hrel
    by_cases hlt : k < n
    · obtain ⟨x, hx⟩ : ∃ x, l[k]? = some x := ⟨_, List.getElem?_eq_getElem (by have := HL.out; omega)⟩
      obtain ⟨b, q, cs, hix, -, hbl, hK, hra⟩ := (HR.out.below HB.out).index (P := Try.prog) Try.underlying57 (E := 85) cav_size hx
      have hKe := hK.1
      subst hKe
      have a0 := hra 0 _ rfl
      have a1 := hra 1 _ rfl
      have a2 := hra 2 _ rfl
      have a3 := hra 3 _ rfl
      have a4 := hra 4 _ rfl
      simp only [Nat.add_zero] at a0
      have HX := hide hx
      clear hx hK hra
      go_wp2_with fail
      refine (c_cannot x wr).mono ?_
      rintro e w1 ⟨rfl, b1⟩
      have HB1 := hide (HB.out.trans (b1.mono HB.out.size))
      clear b1
      cases hc : canC x with
      | true =>
        have HA1 : Hid ((l.take (k + 1)).all canC = true) := hide (by rw [List.take_add_one, HX.out, List.all_append, HA.out]; simp [hc])
        clear hc
        go_wp2_with fail
        go_roundw
        case rel => exact ⟨k + 1, by omega, by simp, HA1, HB1⟩
        case measure => simp [intOf]; omega
      | false =>
        have HA1 : Hid (l.all canC = false) := hide (by
          rw [List.all_eq_false]
          exact ⟨x, List.mem_of_getElem? HX.out, by simp [hc]⟩)
        clear hc
        go_wp2_with fail
        go_ret
        exact ⟨⟨(k : Int), rfl, fun _ => HA1.out, fun _ => by omega⟩, HB1.out⟩
    · obtain rfl : k = n := by omega
      have HA1 : Hid (l.all canC = true) := hide (by
        have := HA.out
        rwa [List.take_of_length_le (Nat.le_of_eq HL.out)] at this)
      go_wp2_with fail
      go_ret
      exact ⟨⟨-1, rfl, fun h => by omega, fun h => by rw [HA1.out] at h; cases h⟩, HB.out⟩
set_option maxRecDepth 100000 in
theorem c_contains (A : Option Addr) (n c : Nat) (l : List Cav) (ok : Nat → Prop) (w : World) (hR : kCav.Row ok w A n c l) :
    Calls Try.prog 72 #[.slice A n c, .func (.func 73) #[] #[]] w fun e w' => e = .returned (.bool (!l.all canC)) ∧ Below w.heap.size w w' := by
  have HR := hide hR
  clear hR
  go_enter Try.func72, Try.ntmps72
  go_wp2_with fail
  refine (c_index A n c l ok w HR.out).mono ?_
  rintro e w1 ⟨⟨i, rfl, hi⟩, b1⟩
  have HI := hide hi
  have HB := hide b1
  clear hi b1
  cases hc : l.all canC with
  | true =>
    have h0 : ¬ 0 ≤ i := fun h => by have := HI.out.1 h; rw [hc] at this; cases this
    have h0' := hide (decide_eq_false h0)
    go_wp2_with fail
    go_ret
    exact ⟨by rw [hc]; exact congrArg (fun b => Ending.returned (.bool b)) h0'.out, HB.out⟩
  | false =>
    have h0 : 0 ≤ i := HI.out.2 hc
    go_wp2_with fail
    go_ret
    exact ⟨by rw [hc]; rfl, HB.out⟩
set_option maxRecDepth 100000 in
theorem c_check (t : Tok) (A : Option Addr) (n c : Nat) (ok : Nat → Prop) (w : World) (hR : kCav.Row ok w A n c t.cavs) :
    Calls Try.prog 40 #[tokV t A n c] w fun e w' => e = .returned (errV (checkT t)) ∧ Below w.heap.size w w' := by
  have HL := hide hR.1
  have hm : n ≤ 9223372036854775807 := Nat.le_trans hR.2.1 hR.2.2.1
  have HR := hide hR
  clear hR
  by_cases h1 : 1024 < t.id.size
  · have HC : Hid (checkT t = false) := hide (by simp [checkT]; omega)
    go_enter Try.func40, Try.ntmps40
    go_wp2_with fail
    go_ret
    exact ⟨by rw [HC.out]; rfl, below1 _ _⟩
  · by_cases h2 : 64 < n
    · have HC : Hid (checkT t = false) := hide (by have := HL.out; simp [checkT]; omega)
      go_enter Try.func40, Try.ntmps40
      go_wp2_with fail
      go_ret
      exact ⟨by rw [HC.out]; rfl, below1 _ _⟩
    · have HC : Hid (checkT t = t.cavs.all canC) := hide (by have := HL.out; simp [checkT]; omega)
      go_enter Try.func40, Try.ntmps40
      go_wp2_with fail
      refine (c_contains A n c t.cavs ok _ (HR.out.below (below1 _ _))).mono ?_
      rintro e w1 ⟨rfl, b1⟩
      have HB := hide (bnext (below1 _ _) b1)
      clear b1
      cases hc : t.cavs.all canC with
      | true =>
        have HC := hide (HC.out.trans hc)
        clear hc
        go_wp2_with fail
        go_ret
        exact ⟨by rw [HC.out]; rfl, HB.out⟩
      | false =>
        have HC := hide (HC.out.trans hc)
        clear hc
        go_wp2_with fail
        go_ret
        exact ⟨by rw [HC.out]; rfl, HB.out⟩
end Go.Proofs.Ytlfhbnajopekpaa
