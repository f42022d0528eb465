/- The statement LexParts, for every input, and its tied card. No condition. -/
import Derived.Test.YtckcadhjpjjmjaaDoorLqa
import Derived.Shelf.Pu.ParseUintPublic10
import Derived.Shelf.Strconv.Itoa0
import Derived.Shelf.Strconv.Itoa1
import Derived.Shelf.LaysM
import Derived.Shelf.Strconv.Itoa2
import Derived.Shelf.Strconv.Itoa3
import Derived.Test.YtckcadhjpjjmjaaDoorProg
import Derived.Lib.ItoaNum
import Derived.Lib.ParseIntB
import Derived.Stop.LaidErr
import Derived.Test.YtckcadhjpjjmjaaDoorChecked
import Derived.SizedLaws
import Derived.Test.YtckcadhjpjjmjaaDoorRows
import Derived.Test.YtckcadhjpjjmjaaDoorTie
import Derived.Test.YtckcadhjpjjmjaaDoorCards
import Derived.SevenTiedAt
namespace Go.Proofs.YtckcadhjpjjmjaaDoor
open Go.RowKit
/-- How far a text has been cut: k letters looked at, f where the piece begins. -/
def Cut (c : UInt8) (x : List UInt8) (k f : Nat) (dn : List (List UInt8)) : Prop :=
  (k ≤ x.length ∧ f ≤ k ∧ dn ++ spl c (x.drop f) = spl c x ∧ c ∉ (x.drop f).take (k - f)) ∨ (k = x.length + 1 ∧ dn = spl c x)
theorem cut_zero (c : UInt8) (x : List UInt8) : Cut c x 0 0 [] := .inl ⟨Nat.zero_le _, Nat.le_refl _, rfl, by simp⟩
theorem cut_end {c : UInt8} {x : List UInt8} {f : Nat} {dn : List (List UInt8)} (h : Cut c x x.length f dn) : Cut c x (x.length + 1) (x.length + 1) (dn ++ [(x.drop f).take (x.length - f)]) := by
  rcases h with ⟨-, hf, h1, h2⟩ | ⟨h1, -⟩
  · refine .inr ⟨rfl, ?_⟩
    have e : (x.drop f).take (x.length - f) = x.drop f := List.take_of_length_le (by rw [List.length_drop]; exact Nat.le_refl _)
    rw [e] at h2 ⊢
    rw [← h1, spl_one c _ h2]
  · omega
theorem cut_hit {c : UInt8} {x : List UInt8} {k f : Nat} {dn : List (List UInt8)} (h : Cut c x k f dn) (hx : x[k]? = some c) : Cut c x (k + 1) (k + 1) (dn ++ [(x.drop f).take (k - f)]) := by
  obtain ⟨hk, he⟩ := List.getElem?_eq_some_iff.1 hx
  rcases h with ⟨-, hf, h1, h2⟩ | ⟨h1, -⟩
  · refine .inl ⟨hk, Nat.le_refl _, ?_, by simp⟩
    have e : x.drop f = (x.drop f).take (k - f) ++ c :: x.drop (k + 1) := by
      conv => lhs; rw [← List.take_append_drop (k - f) (x.drop f)]
      rw [List.drop_drop, show f + (k - f) = k from by omega, List.drop_eq_getElem_cons hk, he]
    rw [← h1, List.append_assoc]
    conv => rhs; rw [e, spl_cut c _ _ h2]
    rfl
  · omega
theorem cut_miss {c y : UInt8} {x : List UInt8} {k f : Nat} {dn : List (List UInt8)} (h : Cut c x k f dn) (hx : x[k]? = some y) (hy : ¬ y = c) : Cut c x (k + 1) f dn := by
  obtain ⟨hk, he⟩ := List.getElem?_eq_some_iff.1 hx
  rcases h with ⟨-, hf, h1, h2⟩ | ⟨h1, -⟩
  · refine .inl ⟨hk, by omega, h1, ?_⟩
    have e : (x.drop f)[k - f]? = some y := by rw [List.getElem?_drop, show f + (k - f) = k from by omega]; exact hx
    rw [show k + 1 - f = (k - f) + 1 from by omega, List.take_add_one, e]
    intro hm
    rcases List.mem_append.1 hm with hm | hm
    · exact h2 hm
    · have h3 : c = y := by simpa using hm
      exact hy h3.symm
  · omega
theorem cut_from {c : UInt8} {x : List UInt8} {k f : Nat} {dn : List (List UInt8)} (h : Cut c x k f dn) (hk : k ≤ x.length) : f ≤ k := by
  rcases h with ⟨-, hf, -, -⟩ | ⟨h1, -⟩
  · exact hf
  · omega
theorem cut_done {c : UInt8} {x : List UInt8} {k f : Nat} {dn : List (List UInt8)} (h : Cut c x k f dn) (hk : ¬ k ≤ x.length) : dn = spl c x := by
  rcases h with ⟨h1, -, -, -⟩ | ⟨-, h1⟩
  · exact absurd h1 hk
  · exact h1
/-- Texts in memory of the call's own. -/
def TextsR (w : World) (l : List (List UInt8)) (e : Ending) (w' : World) : Prop :=
  ∃ A n c, e = .returned (.slice A n c) ∧ kStr.Row (fun _ => True) w' A n c (l.map txt) ∧ Below w.heap.size w w'
set_option maxRecDepth 100000 in
set_option maxHeartbeats 3200000 in
theorem c_rsplit (x : List UInt8) (c : UInt8) (w : World) (hx : x.length ≤ 1000000) :
    Calls Tryd.prog 62 #[.string (txt x), .int .u8 (c.toNat : Int)] w (TextsR w (spl c x)) := by
  have hsz : (txt x).size = x.length := txt_size x
  obtain ⟨n, hn⟩ : ∃ n, x.length = n := ⟨_, rfl⟩
  rw [hn] at hsz hx
  have HL := hide hn
  have HO : Hid (kStr.Own (fun _ => True) w.heap.size (w.alloc (.cells #[] 9)) 9 (.slice (some ⟨w.heap.size, 0, none⟩) 0 0) []) := hide (Kd.Own.lit (.nil _ _ _) #[] rfl 0 rfl (Nat.zero_le _) _ rfl (Nat.le_refl _))
  clear hn
  go_enter Tryd.func62, Tryd.ntmps62
  go_wp2_with fail
  go_loopw [5, 6, 7] (fun v fv iv wr => ∃ (V : Value) (k f : Nat) (dn : List (List UInt8)), V = v ∧ iv = .int .i64 (k : Int) ∧ fv = .int .i64 (f : Int) ∧ k ≤ n + 1 ∧ dn.length ≤ k ∧ Hid (Cut c x k f dn) ∧ Hid (kStr.Own (fun _ => True) w.heap.size wr 9 v (dn.map txt)) ∧ Hid (Below w.heap.size w wr)) (fun _ _ i _ => n + 2 - (intOf i).toNat)
  case atStart => exact ⟨_, 0, 0, [], rfl, rfl, rfl, Nat.zero_le _, Nat.le_refl _, hide (cut_zero c x), HO, hide ((Below.refl _ _).alloc (Nat.le_refl _) _)⟩
  case round =>
    obtain ⟨v, k, f, dn, rfl, rfl, rfl, hk, hdn, HC, HV, HB⟩ := hrel
    have hsb := HB.out.size
    by_cases hlt : k ≤ n
    · have hfk := cut_from HC.out (by have := HL.out; omega)
      by_cases hkn : k = n
      · subst hkn
        have HSL : Hid (((txt x).extract f k).size ≤ maxLen) := hide (by rw [ext_txt, txt_size, List.length_take, List.length_drop]; have := HL.out; simp only [maxLen]; omega)
        have HVA : Hid (kStr.App (fun _ => True) w.heap.size (wr.alloc (.cells #[.string ((txt x).extract f k)] 9)) 9 v (dn.map txt)) := hide ((show kStr.App (fun _ => True) w.heap.size wr 9 v (dn.map txt) from .inl HV.out).alloc hsb _)
        have HSRC : Hid (kStr.Src (fun j => True ∧ some j ≠ v.ownBlock) (wr.alloc (.cells #[.string ((txt x).extract f k)] 9)) (some ⟨wr.heap.size, 0, none⟩) 1 [(txt x).extract f k]) := hide (Kd.Src.new (d := kStr) (show kStr.K (fun j => True ∧ some j ≠ v.ownBlock) wr ((txt x).extract f k) [.string ((txt x).extract f k)] from ⟨rfl, HSL.out⟩) _ rfl _ rfl)
        go_wp2_with (at_builtin; go_loud (refine wpList_app (d := kStr) (ok := fun _ => True) (base := w.heap.size) rfl _ _ _ rfl Tryd.underlying22 str_inf rfl (by decide) 1 rfl rfl HVA.out HSRC.out ?_ ?_ ?_ ?_))
        · simp only [World.size_alloc]; omega
        · rw [List.length_map]; simp only [maxLen]; omega
        · rw [List.length_map]; omega
        intro v2 w2 _ h2 b2 _ _
        have h2' : kStr.Own (fun _ => True) w.heap.size w2 9 v2 ((dn ++ [(x.drop f).take (k - f)]).map txt) := by
          rw [List.map_append, List.map_singleton, ← ext_txt]
          exact h2
        have H2 := hide h2'
        have HB2 := hide ((HB.out.alloc hsb _).trans b2)
        have HC2 := hide (show Cut c x (k + 1) (k + 1) (dn ++ [(x.drop f).take (k - f)]) from by have e := HL.out; subst e; exact cut_end HC.out)
        clear h2 h2' b2 HVA HSRC HSL HV
        go_wp2_with fail
        go_roundw
        case rel => exact ⟨v2, k + 1, k + 1, dn ++ [(x.drop f).take (k - f)], rfl, by simp, by simp, by omega, by simp; omega, HC2, H2, HB2⟩
        case measure => simp [intOf] <;> omega
      · obtain ⟨y, hy⟩ : ∃ y, x[k]? = some y := ⟨_, List.getElem?_eq_getElem (by have := HL.out; omega)⟩
        have hix := txt_byte (P := Tryd.prog) Tryd.underlying9 hy .i64
        have hkn' : ¬ (k : Int) = (n : Int) := by omega
        by_cases hyc : y = c
        · subst hyc
          have HY := hide hy
          clear hy
          have HSL : Hid (((txt x).extract f k).size ≤ maxLen) := hide (by rw [ext_txt, txt_size, List.length_take, List.length_drop]; have := HL.out; simp only [maxLen]; omega)
          have HVA : Hid (kStr.App (fun _ => True) w.heap.size (wr.alloc (.cells #[.string ((txt x).extract f k)] 9)) 9 v (dn.map txt)) := hide ((show kStr.App (fun _ => True) w.heap.size wr 9 v (dn.map txt) from .inl HV.out).alloc hsb _)
          have HSRC : Hid (kStr.Src (fun j => True ∧ some j ≠ v.ownBlock) (wr.alloc (.cells #[.string ((txt x).extract f k)] 9)) (some ⟨wr.heap.size, 0, none⟩) 1 [(txt x).extract f k]) := hide (Kd.Src.new (d := kStr) (show kStr.K (fun j => True ∧ some j ≠ v.ownBlock) wr ((txt x).extract f k) [.string ((txt x).extract f k)] from ⟨rfl, HSL.out⟩) _ rfl _ rfl)
          go_wp2_with (at_builtin; go_loud (refine wpList_app (d := kStr) (ok := fun _ => True) (base := w.heap.size) rfl _ _ _ rfl Tryd.underlying22 str_inf rfl (by decide) 1 rfl rfl HVA.out HSRC.out ?_ ?_ ?_ ?_))
          · simp only [World.size_alloc]; omega
          · rw [List.length_map]; simp only [maxLen]; omega
          · rw [List.length_map]; omega
          intro v2 w2 _ h2 b2 _ _
          have h2' : kStr.Own (fun _ => True) w.heap.size w2 9 v2 ((dn ++ [(x.drop f).take (k - f)]).map txt) := by
            rw [List.map_append, List.map_singleton, ← ext_txt]
            exact h2
          have H2 := hide h2'
          have HB2 := hide ((HB.out.alloc hsb _).trans b2)
          have HC2 := hide (cut_hit HC.out HY.out)
          clear h2 h2' b2 HVA HSRC HSL HV
          go_wp2_with fail
          go_roundw
          case rel => exact ⟨v2, k + 1, k + 1, dn ++ [(x.drop f).take (k - f)], rfl, by simp, by simp, by omega, by simp; omega, HC2, H2, HB2⟩
          case measure => simp [intOf] <;> omega
        · have hne : ¬ (y.toNat : Int) = (c.toNat : Int) := fun e => hyc (UInt8.toNat_inj.1 (by omega))
          have hb1 : ((k : Int) == (n : Int)) = false := beq_eq_false_iff_ne.2 hkn'
          have hb2 : ((y.toNat : Int) == (c.toNat : Int)) = false := beq_eq_false_iff_ne.2 hne
          have HC2 := hide (cut_miss HC.out hy hyc)
          clear hy
          go_wp2_with fail
          go_roundw
          case rel => exact ⟨v, k + 1, f, dn, rfl, by simp, rfl, by omega, by omega, HC2, HV, HB⟩
          case measure => simp [intOf] <;> omega
    · have hkn : k = n + 1 := by omega
      subst hkn
      have HD : Hid (dn = spl c x) := hide (cut_done HC.out (by have := HL.out; omega))
      have hle : ¬ ((n : Int) + 1 ≤ (n : Int)) := by omega
      obtain ⟨A9, c9, rfl, hr9⟩ := HV.out.row
      rw [List.length_map] at hr9 ⊢
      have HR9 := hide (hr9.more (ok' := fun _ => True) fun _ _ => trivial)
      clear hr9
      go_wp2_with fail
      go_ret
      exact ⟨A9, _, c9, rfl, by rw [← HD.out]; exact HR9.out, HB.out⟩
end Go.Proofs.YtckcadhjpjjmjaaDoor
namespace Go.Proofs.YtckcadhjpjjmjaaDoor
open Go.RowKit
/-- The letters that bar a text. -/
def oddW (c : Nat) : Bool := decide (c < 32) || decide (126 < c)
def oddT (x : List UInt8) : Bool := x.any fun b => decide (b.toNat < 32) || decide (126 < b.toNat)
/-- A text's words. -/
def wordsB (x : List UInt8) : Option (List (List UInt8)) :=
  if x = [] then some [] else if oddT x = true ∨ 512 < x.length ∨ [] ∈ spl 32 x then none else some (spl 32 x)
theorem pred_words (w : World) : PredAt Tryd.prog 60 #[] encR oddW w := fun W r _ => by
  unfold FnGives
  by_cases h1 : r < 32 <;> by_cases h2 : 126 < r
  all_goals
    have z1 : (r : Int) < 32 ↔ r < 32 := by omega
    have z2 : (126 : Int) < (r : Int) ↔ 126 < r := by omega
    go_enter Tryd.func60, Tryd.ntmps60
    go_wp2
    all_goals first | (exfalso; omega) | (go_ret; exact ⟨by simp [oddW, h1, h2], 0, rfl⟩)
theorem c_containsW0 (s : ByteArray) (w : World) : Calls Tryd.prog 59 #[.string s, .func (.func 60) #[] #[]] w fun e w' => e = .returned (.bool (oddT (byt s))) ∧ Below w.heap.size w w' := by
  have hC := Tryd.strings_ContainsFunc 60 #[] (enters_of Tryd.func60 (by kernel_rfl) rfl) oddW s w (pred_words w)
  have hi := idx_out oddW 32 126 (by decide) (fun n => rfl) s s.size 0 (by omega)
  rw [List.drop_zero] at hi
  rw [Lib.idxFunc, hi] at hC
  exact hC
theorem c_containsW (x : List UInt8) (w : World) : Calls Tryd.prog 59 #[.string (txt x), .func (.func 60) #[] #[]] w fun e w' => e = .returned (.bool (oddT x)) ∧ Below w.heap.size w w' := by
  have h := c_containsW0 (txt x) w
  rwa [byt_txt] at h
theorem c_containsE (A : Option Addr) (n c : Nat) (l : List (List UInt8)) (ok : Nat → Prop) (w : World) (hR : kStr.Row ok w A n c (l.map txt)) (hn : 0 < n) :
    Calls Tryd.prog 61 #[.slice A n c, .string ⟨#[]⟩] w fun e w' => e = .returned (.bool (decide ([] ∈ l))) ∧ w' = w := by
  have hl : (l.map txt).length = n := hR.1
  obtain ⟨b, o, rfl, -, hc⟩ := row_getD hR hn
  have h := Tryd.slices_Contains_string b o n c (l.map txt) ⟨#[]⟩ w (by omega) (Nat.le_trans hR.2.1 hR.2.2.1) hc
  have e : Lib.containsS ((l.map txt).take n) ⟨#[]⟩ = decide ([] ∈ l) := by
    rw [List.take_of_length_le (Nat.le_of_eq hl), Bool.eq_iff_iff, Lib.containsS_iff, decide_eq_true_eq]
    constructor
    · intro h
      obtain ⟨x, hx, e⟩ := List.mem_map.1 h
      have : x = [] := by
        have h2 := congrArg byt e
        rw [byt_txt] at h2
        exact h2
      rw [← this]; exact hx
    · intro h
      exact List.mem_map.2 ⟨[], h, rfl⟩
  rw [e] at h
  exact h
set_option maxRecDepth 100000 in
set_option maxHeartbeats 3200000 in
theorem c_words (x : List UInt8) (m : Int) (w : World) (hx : x.length ≤ 1000000) (hm : w.cell? ⟨5, 0, none⟩ = some (.int .i64 m)) :
    Calls Tryd.prog 33 #[.string (txt x)] w (NamesR w (wordsB x)) := by
  by_cases h0 : x = []
  · subst h0
    have HE : Hid (wordsB [] = some []) := hide rfl
    clear hm
    go_enter Tryd.func33, Tryd.ntmps33
    go_wp2_with fail
    exact bodyPost_ret (v := .tuple #[.slice none 0 0, .bool true]) (by simp [results, Tryd.results33, go_sem]) rfl ⟨none, 0, 0, by rw [HE.out]; rfl, by rw [HE.out]; exact .nil _ _ _ _ _ (Nat.zero_le _), Below.refl _ _⟩
  · obtain ⟨n0, hn0⟩ : ∃ n, x.length = n := ⟨_, rfl⟩
    have hsx : (txt x).size = n0 := by rw [txt_size, hn0]
    rw [hn0] at hx
    have hS := Tryd.strings_Split (txt x) ⟨#[32]⟩ m w (by rw [hsx]; omega) hm (by decide)
    rw [count_eq, split_eq] at hS
    obtain ⟨l, hl0⟩ : ∃ l, spl 32 x = l := ⟨_, rfl⟩
    rw [hl0] at hS
    have hsz : ∀ s ∈ l.map txt, s.size ≤ maxLen := by
      intro s hs
      obtain ⟨p, hp, rfl⟩ := List.mem_map.1 hs
      have := spl_le 32 x p (by rw [hl0]; exact hp)
      rw [txt_size]; simp only [maxLen]; omega
    obtain ⟨n, hl⟩ : ∃ n, l.length = n := ⟨_, rfl⟩
    have hn1 : 0 < n := by rw [← hl, ← hl0, spl_len]; omega
    have hcnt : n ≤ 1000001 := by
      rw [← hl, ← hl0, spl_len]; have := List.count_le_length (a := (32 : UInt8)) (l := x); omega
    rw [hl] at hS
    have HW : Hid (wordsB x = if oddT x = true ∨ 512 < n0 ∨ [] ∈ l then none else some l) := hide (by rw [wordsB, if_neg h0, hl0, hn0])
    obtain ⟨w1, hw1⟩ : ∃ w1, w1 = w.alloc (.cells ((l.map txt).map Value.string).toArray 9) := ⟨_, rfl⟩
    have HR : Hid (kStr.Row (fun k => w.heap.size ≤ k) w1 (some ⟨w.heap.size, 0, none⟩) n n (l.map txt)) := hide (by
      have h := strs_row (w := w1) (g := w.heap.size) (l.map txt) (by rw [hw1]; exact heap_alloc_new _ _) (by simp) hsz (by rw [List.length_map, hl]; simp only [maxLen]; omega)
      rw [List.length_map, hl] at h
      refine ⟨h.1, h.2.1, h.2.2.1, fun hn => ?_⟩
      obtain ⟨b, o, e, -, h4, h5⟩ := h.2.2.2 hn
      have eb : b = w.heap.size := by injection e with e; injection e with e1 _; exact e1.symm
      exact ⟨b, o, e, by rw [eb]; exact Nat.le_refl _, h4, fun i y hy => let ⟨cs, h6, h7⟩ := h5 i y hy; ⟨cs, h6, h7⟩⟩)
    have HB1 : Hid (Below w.heap.size w w1) := hide (by rw [hw1]; exact (Below.refl _ _).alloc (Nat.le_refl _) _)
    rw [← hw1] at hS
    have HS0 := hide hS
    obtain ⟨od, hod⟩ : ∃ od, oddT x = od := ⟨_, rfl⟩
    rw [hod] at HW
    have HOD := hide hod
    have hxe : x.isEmpty = false := by cases x with | nil => exact absurd rfl h0 | cons a b => rfl
    clear hm hl0 hsz hw1 hS hl hod
    go_enter Tryd.func33, Tryd.ntmps33
    go_wp2_with fail
    refine HS0.out.mono ?_
    rintro e w2 ⟨rfl, rfl⟩
    go_wp2_with fail
    refine (c_containsW x w2).mono ?_
    rintro e w3 ⟨rfl, b3⟩
    rw [HOD.out]
    have HB3 := hide (HB1.out.trans (b3.mono HB1.out.size))
    have HR3 := hide (HR.out.below b3)
    clear b3
    cases od with
    | true =>
      have HE : Hid (wordsB x = none) := hide (by rw [HW.out, if_pos (.inl rfl)])
      go_wp2_with fail
      exact bodyPost_ret (v := .tuple #[.slice none 0 0, .bool false]) (by simp [results, Tryd.results33, go_sem]) rfl ⟨none, 0, 0, by rw [HE.out]; rfl, by rw [HE.out]; exact .nil _ _ _ _ _ (Nat.zero_le _), HB3.out⟩
    | false =>
      by_cases h5 : 512 < n0
      · have h5' : (512 : Int) < (n0 : Int) := by omega
        have HE : Hid (wordsB x = none) := hide (by rw [HW.out, if_pos (.inr (.inl h5))])
        go_wp2_with fail
        exact bodyPost_ret (v := .tuple #[.slice none 0 0, .bool false]) (by simp [results, Tryd.results33, go_sem]) rfl ⟨none, 0, 0, by rw [HE.out]; rfl, by rw [HE.out]; exact .nil _ _ _ _ _ (Nat.zero_le _), HB3.out⟩
      · have h5' : ¬ (512 : Int) < (n0 : Int) := by omega
        by_cases hE : [] ∈ l
        · have HE : Hid (wordsB x = none) := hide (by rw [HW.out, if_pos (.inr (.inr hE))])
          have HD : Hid (decide ([] ∈ l) = true) := hide (decide_eq_true hE)
          clear hE
          go_wp2_with fail
          refine (c_containsE _ n n l _ w3 HR3.out hn1).mono ?_
          rintro e w4 ⟨rfl, rfl⟩
          rw [HD.out]
          go_wp2_with fail
          exact bodyPost_ret (v := .tuple #[.slice none 0 0, .bool false]) (by simp [results, Tryd.results33, go_sem]) rfl ⟨none, 0, 0, by rw [HE.out]; rfl, by rw [HE.out]; exact .nil _ _ _ _ _ (Nat.zero_le _), HB3.out⟩
        · have HE : Hid (wordsB x = some l) := hide (by rw [HW.out, if_neg (by simp [h5, hE])])
          have HD : Hid (decide ([] ∈ l) = false) := hide (decide_eq_false hE)
          clear hE
          go_wp2_with fail
          refine (c_containsE _ n n l _ w3 HR3.out hn1).mono ?_
          rintro e w4 ⟨rfl, rfl⟩
          rw [HD.out]
          go_wp2_with fail
          exact bodyPost_ret (v := .tuple #[.slice (some ⟨w.heap.size, 0, none⟩) n n, .bool true]) (by simp [results, Tryd.results33, go_sem]) rfl ⟨some ⟨w.heap.size, 0, none⟩, n, n, by rw [HE.out]; rfl, by rw [HE.out]; exact HR3.out, HB3.out⟩
end Go.Proofs.YtckcadhjpjjmjaaDoor
namespace Go.Proofs.YtckcadhjpjjmjaaDoor
open Go.RowKit
/-- Pieces in memory. -/
def NamesT (w : World) (o : Option (List (List UInt8))) (e : Ending) (w' : World) : Prop :=
  ∃ A n c, e = .returned (.tuple #[.slice A n c, .bool o.isSome]) ∧ kStr.Row (fun _ => True) w' A n c ((o.getD []).map txt) ∧ Below w.heap.size w w'
theorem NamesR.loose {w : World} {o : Option (List (List UInt8))} {e : Ending} {w' : World} (h : NamesR w o e w') : NamesT w o e w' := by
  obtain ⟨A, n, c, h1, h2, h3⟩ := h
  exact ⟨A, n, c, h1, h2.more fun _ _ => trivial, h3⟩
set_option maxRecDepth 100000 in
set_option maxHeartbeats 1600000 in
theorem c_rnames (x : List UInt8) (w : World) (hx : x.length ≤ 1000000) :
    Calls Tryd.prog 37 #[.string (txt x)] w (NamesT w (namesB geS x)) := by
  have HS := hide (c_rsplit x 44 w hx)
  obtain ⟨l, hl⟩ : ∃ l, spl 44 x = l := ⟨_, rfl⟩
  rw [hl] at HS
  have HN : Hid (namesB geS x = if riseB geS l = true then some l else none) := hide (by rw [namesB, hl])
  clear hl hx
  go_enter Tryd.func37, Tryd.ntmps37
  go_wp2_with fail
  refine HS.out.mono ?_
  rintro e w1 ⟨A1, n1, c1, rfl, hr1, b1⟩
  have HR1 := hide hr1
  have HB1 := hide b1
  clear hr1 b1
  go_wp2_with fail
  refine (c_rise l A1 n1 c1 _ w1 HR1.out).mono ?_
  rintro e w2 ⟨rfl, rfl⟩
  cases hb : riseB geS l with
  | true =>
    have HE : Hid (namesB geS x = some l) := hide (by rw [HN.out, if_pos hb])
    clear hb HN
    go_wp2_with fail
    exact bodyPost_ret (v := .tuple #[.slice A1 n1 c1, .bool true]) (by simp [results, Tryd.results37, go_sem]) rfl ⟨A1, n1, c1, by rw [HE.out]; rfl, by rw [HE.out]; exact HR1.out, HB1.out⟩
  | false =>
    have HE : Hid (namesB geS x = none) := hide (by rw [HN.out, hb]; rfl)
    clear hb HN
    go_wp2_with fail
    exact bodyPost_ret (v := .tuple #[.slice none 0 0, .bool false]) (by simp [results, Tryd.results37, go_sem]) rfl ⟨none, 0, 0, by rw [HE.out]; rfl, by rw [HE.out]; exact .nil _ _ _ _ _ (Nat.zero_le _), HB1.out⟩
set_option maxRecDepth 100000 in
set_option maxHeartbeats 3200000 in
theorem c_rwords (x : List UInt8) (w : World) (hx : x.length ≤ 1000000) :
    Calls Tryd.prog 34 #[.string (txt x)] w (NamesT w (wordsB x)) := by
  by_cases h0 : x = []
  · subst h0
    have HE : Hid (wordsB [] = some []) := hide rfl
    go_enter Tryd.func34, Tryd.ntmps34
    go_wp2_with fail
    exact bodyPost_ret (v := .tuple #[.slice (some ⟨w.heap.size, 0, none⟩) 0 0, .bool true]) (by simp [results, Tryd.results34, go_sem]) rfl ⟨_, 0, 0, by rw [HE.out]; rfl, by rw [HE.out]; exact .nil _ _ _ _ _ (Nat.zero_le _), (Below.refl _ _).alloc (Nat.le_refl _) _⟩
  · have hxe : x.isEmpty = false := by cases x with | nil => exact absurd rfl h0 | cons a b => rfl
    obtain ⟨n, hn⟩ : ∃ n, x.length = n := ⟨_, rfl⟩
    have hsx : (txt x).size = n := by rw [txt_size, hn]
    have HS := hide (c_rsplit x 32 w hx)
    rw [hn] at hx
    have HW : Hid (wordsB x = if oddT x = true ∨ 512 < n ∨ [] ∈ spl 32 x then none else some (spl 32 x)) := hide (by rw [wordsB, if_neg h0, hn])
    have HL := hide hn
    clear hn
    by_cases h5 : 512 < n
    · have h5' : (512 : Int) < (n : Int) := by omega
      have HE : Hid (wordsB x = none) := hide (by rw [HW.out, if_pos (.inr (.inl h5))])
      go_enter Tryd.func34, Tryd.ntmps34
      go_wp2_with fail
      exact bodyPost_ret (v := .tuple #[.slice none 0 0, .bool false]) (by simp [results, Tryd.results34, go_sem]) rfl ⟨none, 0, 0, by rw [HE.out]; rfl, by rw [HE.out]; exact .nil _ _ _ _ _ (Nat.zero_le _), Below.refl _ _⟩
    · have h5' : ¬ (512 : Int) < (n : Int) := by omega
      go_enter Tryd.func34, Tryd.ntmps34
      go_wp2_with fail
      go_loop [4] (fun i => ∃ k : Nat, k ≤ n ∧ i = .int .i64 (k : Int) ∧ Hid (oddT (x.take k) = false)) (fun i => n - (intOf i).toNat)
      case atStart => exact ⟨0, Nat.zero_le _, rfl, hide rfl⟩
      case round =>
        obtain ⟨k, hk, rfl, HT⟩ := hrel
        by_cases hlt : k < n
        · obtain ⟨y, hy⟩ : ∃ y, x[k]? = some y := ⟨_, List.getElem?_eq_getElem (by have := HL.out; omega)⟩
          have hix := txt_byte (P := Tryd.prog) Tryd.underlying9 hy .i64
          have hT2 : oddT (x.take (k + 1)) = (decide (y.toNat < 32) || decide (126 < y.toNat)) := by
            have h := HT.out
            unfold oddT at h ⊢
            rw [List.take_add_one, hy, List.any_append, h, Bool.false_or]
            simp
          have hmem : y ∈ x := List.mem_of_getElem? hy
          clear hy
          by_cases ha : y.toNat < 32
          · have HE : Hid (wordsB x = none) := hide (by rw [HW.out, if_pos (.inl (List.any_eq_true.2 ⟨y, hmem, by simp; omega⟩))])
            have ha' : (y.toNat : Int) < 32 := by omega
            clear hT2
            go_wp2_with fail
            exact bodyPost_ret (v := .tuple #[.slice none 0 0, .bool false]) (by simp [results, Tryd.results34, go_sem]) rfl ⟨none, 0, 0, by rw [HE.out]; rfl, by rw [HE.out]; exact .nil _ _ _ _ _ (Nat.zero_le _), Below.refl _ _⟩
          · have ha' : ¬ (y.toNat : Int) < 32 := by omega
            by_cases hz : 126 < y.toNat
            · have HE : Hid (wordsB x = none) := hide (by rw [HW.out, if_pos (.inl (List.any_eq_true.2 ⟨y, hmem, by simp; omega⟩))])
              have hz' : (126 : Int) < (y.toNat : Int) := by omega
              clear hT2
              go_wp2_with fail
              exact bodyPost_ret (v := .tuple #[.slice none 0 0, .bool false]) (by simp [results, Tryd.results34, go_sem]) rfl ⟨none, 0, 0, by rw [HE.out]; rfl, by rw [HE.out]; exact .nil _ _ _ _ _ (Nat.zero_le _), Below.refl _ _⟩
            · have hz' : ¬ (126 : Int) < (y.toNat : Int) := by omega
              have HT2 : Hid (oddT (x.take (k + 1)) = false) := hide (by rw [hT2, decide_eq_false ha, decide_eq_false hz]; rfl)
              clear hT2
              go_wp2_with fail
              go_round
              case rel => exact ⟨k + 1, by omega, by simp, HT2⟩
              case measure => simp [intOf]; omega
        · obtain rfl : k = n := by omega
          have HO : Hid (oddT x = false) := hide (by
            have := HT.out
            rwa [List.take_of_length_le (Nat.le_of_eq HL.out)] at this)
          clear HT
          go_wp2_with fail
          refine HS.out.mono ?_
          rintro e w1 ⟨A1, n1, c1, rfl, hr1, b1⟩
          obtain ⟨l, hl⟩ : ∃ l, spl 32 x = l := ⟨_, rfl⟩
          rw [hl] at hr1 HW
          have HW2 : Hid (wordsB x = if [] ∈ l then none else some l) := hide (by rw [HW.out, HO.out]; simp [h5])
          have HR1 := hide hr1
          have HB1 := hide b1
          have HLL : Hid (l.length = n1) := hide (by rw [← hr1.1, List.length_map])
          have hn63 : n1 ≤ 9223372036854775807 := Nat.le_trans hr1.2.1 hr1.2.2.1
          clear hl hr1 b1 HW
          go_wp2_with fail
          go_loop [34] (fun i => ∃ k : Nat, k ≤ n1 ∧ i = .int .i64 (k : Int) ∧ Hid ([] ∉ l.take k)) (fun i => n1 - (intOf i).toNat)
          case atStart => exact ⟨0, Nat.zero_le _, rfl, hide (by simp)⟩
          case round =>
            obtain ⟨j, hj, rfl, HJ⟩ := hrel
            by_cases hlt2 : j < n1
            · obtain ⟨p, hp⟩ : ∃ p, l[j]? = some p := ⟨_, List.getElem?_eq_getElem (by have := HLL.out; omega)⟩
              have hp2 : (l.map txt)[j]? = some (txt p) := by rw [List.getElem?_map, hp]; rfl
              obtain ⟨g, o, hiy, hcy, -, -⟩ := row_str HR1.out hp2
              cases p with
              | nil =>
                have HE : Hid (wordsB x = none) := hide (by rw [HW2.out, if_pos (List.mem_of_getElem? hp)])
                clear hp hp2
                go_wp2_with fail
                exact bodyPost_ret (v := .tuple #[.slice none 0 0, .bool false]) (by simp [results, Tryd.results34, go_sem]) rfl ⟨none, 0, 0, by rw [HE.out]; rfl, by rw [HE.out]; exact .nil _ _ _ _ _ (Nat.zero_le _), HB1.out⟩
              | cons a r =>
                have HJ2 : Hid ([] ∉ l.take (j + 1)) := hide (by
                  rw [List.take_add_one, hp]
                  intro hm
                  rcases List.mem_append.1 hm with hm | hm
                  · exact HJ.out hm
                  · simp at hm)
                obtain ⟨z, hz⟩ : ∃ z, a :: r = z := ⟨_, rfl⟩
                have hze : z.isEmpty = false := by rw [← hz]; rfl
                rw [hz] at hcy
                clear hp hp2 hz
                go_wp2_with fail
                go_round
                case rel => exact ⟨j + 1, by omega, by simp, HJ2⟩
                case measure => simp [intOf]; omega
            · obtain rfl : j = n1 := by omega
              have HE : Hid (wordsB x = some l) := hide (by
                have := HJ.out
                rw [List.take_of_length_le (Nat.le_of_eq HLL.out)] at this
                rw [HW2.out, if_neg this])
              go_wp2_with fail
              exact bodyPost_ret (v := .tuple #[.slice A1 j c1, .bool true]) (by simp [results, Tryd.results34, go_sem]) rfl ⟨A1, j, c1, by rw [HE.out]; rfl, by rw [HE.out]; exact HR1.out, HB1.out⟩
end Go.Proofs.YtckcadhjpjjmjaaDoor
namespace Go.Proofs
open Go.Shelf
def Tryd.lays283_ren : Go.Shelf.Ren := ⟨fun | 283 => 116 | n => n, fun | 3 => 3 | 9 => 9 | 4 => 4 | n => n, fun | n => n⟩
theorem Tryd.lays283 : Go.Proofs.Lays.n283 Tryd.prog Tryd.lays283_ren := {
  mixed := by kernel_rfl
  f283 := Tryd.func116.trans (congrArg some (by kernel_rfl))
  t3 := Tryd.underlying3
  a3 := Tryd.isAgg3
  z3 := Tryd.sizeOf3
  v3 := Tryd.zeroValue3
  t4 := Tryd.underlying4
  a4 := Tryd.isAgg4
  z4 := Tryd.sizeOf4
  v4 := Tryd.zeroValue4
  t9 := Tryd.underlying9
  a9 := Tryd.isAgg9
  z9 := Tryd.sizeOf9
  v9 := Tryd.zeroValue9 }
open Go.Lib in
theorem Tryd.internal_strconv_small (i : Nat) (h : i < 100) (w : World) :
    Calls Tryd.prog 116 #[.int .i64 i] w fun e w' => e = .returned (.string ⟨(Lib.decDigits i).toArray⟩) ∧ w' = w := Any.internal_strconv_small Tryd.lays283 i h w
def Tryd.laysM284_ren : Go.Shelf.Ren := ⟨fun | 284 => 117 | 129 => 133 | 317 => 132 | 318 => 134 | n => n, fun | 53 => 30 | 3 => 3 | 212 => 131 | 0 => 0 | 4 => 4 | 46 => 79 | 5 => 5 | 9 => 9 | n => n, fun | 17 => 4 | n => n⟩
theorem Tryd.laysM284 : Go.Proofs.LaysM.n284 Tryd.prog Tryd.laysM284_ren := {
  mixed := by kernel_rfl
  f129 := Tryd.func133.trans (congrArg some (by kernel_rfl))
  f284 := Tryd.func117.trans (congrArg some (by kernel_rfl))
  f317 := Tryd.func132.trans (congrArg some (by kernel_rfl))
  f318 := Tryd.func134.trans (congrArg some (by kernel_rfl))
  t0 := Tryd.underlying0
  a0 := Tryd.isAgg0
  z0 := Tryd.sizeOf0
  v0 := Tryd.zeroValue0
  t3 := Tryd.underlying3
  a3 := Tryd.isAgg3
  z3 := Tryd.sizeOf3
  v3 := Tryd.zeroValue3
  t4 := Tryd.underlying4
  a4 := Tryd.isAgg4
  z4 := Tryd.sizeOf4
  v4 := Tryd.zeroValue4
  t5 := Tryd.underlying5
  a5 := Tryd.isAgg5
  z5 := Tryd.sizeOf5
  v5 := Tryd.zeroValue5
  t9 := Tryd.underlying9
  a9 := Tryd.isAgg9
  z9 := Tryd.sizeOf9
  v9 := Tryd.zeroValue9
  t46 := Tryd.underlying79
  a46 := Tryd.isAgg79
  z46 := Tryd.sizeOf79
  v46 := Tryd.zeroValue79
  t53 := Tryd.underlying30
  a53 := Tryd.isAgg30
  z53 := Tryd.sizeOf30
  v53 := Tryd.zeroValue30
  t212 := Tryd.underlying131
  a212 := Tryd.isAgg131
  z212 := Tryd.sizeOf131
  v212 := Tryd.zeroValue131
  g17 := by kernel_rfl
  i0 := by kernel_rfl
  i3 := by kernel_rfl
  i4 := by kernel_rfl
  i5 := by kernel_rfl
  i9 := by kernel_rfl
  i46 := by kernel_rfl
  i53 := by kernel_rfl
  i212 := by kernel_rfl
  m17 := by kernel_rfl }
open Go.Lib in
theorem Tryd.internal_strconv_numDigits (u : Nat) (h1 : 1 ≤ u) (h2 : u < 18446744073709551616) (w : World) (htab : Lib.TabIs Tryd.prog w "internal/strconv.uint64pow10" .u64 Lib.pow10Tab) :
    Calls Tryd.prog 117 #[.int .u64 u] w fun e w' => e = .returned (.int .i64 (Lib.nDigits u)) ∧ w' = w := Any.internal_strconv_numDigits Tryd.laysM284 u h1 h2 w htab
def Tryd.lays285_ren : Go.Shelf.Ren := ⟨fun | 285 => 118 | n => n, fun | 37 => 71 | 53 => 30 | 3 => 3 | 4 => 4 | 51 => 132 | 9 => 9 | 5 => 5 | 0 => 0 | n => n, fun | n => n⟩
theorem Tryd.lays285 : Go.Proofs.Lays.n285 Tryd.prog Tryd.lays285_ren := {
  mixed := by kernel_rfl
  f285 := Tryd.func118.trans (congrArg some (by kernel_rfl))
  t0 := Tryd.underlying0
  a0 := Tryd.isAgg0
  z0 := Tryd.sizeOf0
  v0 := Tryd.zeroValue0
  t3 := Tryd.underlying3
  a3 := Tryd.isAgg3
  z3 := Tryd.sizeOf3
  v3 := Tryd.zeroValue3
  t4 := Tryd.underlying4
  a4 := Tryd.isAgg4
  z4 := Tryd.sizeOf4
  v4 := Tryd.zeroValue4
  t5 := Tryd.underlying5
  a5 := Tryd.isAgg5
  z5 := Tryd.sizeOf5
  v5 := Tryd.zeroValue5
  t9 := Tryd.underlying9
  a9 := Tryd.isAgg9
  z9 := Tryd.sizeOf9
  v9 := Tryd.zeroValue9
  t37 := Tryd.underlying71
  a37 := Tryd.isAgg71
  z37 := Tryd.sizeOf71
  v37 := Tryd.zeroValue71
  t51 := Tryd.underlying132
  a51 := Tryd.isAgg132
  z51 := Tryd.sizeOf132
  v51 := Tryd.zeroValue132
  t53 := Tryd.underlying30
  a53 := Tryd.isAgg30
  z53 := Tryd.sizeOf30
  v53 := Tryd.zeroValue30 }
open Go.RowKit Go.Sort Go.Lib in
theorem Tryd.internal_strconv_formatBase10 (blk off cap : Nat) (u : Nat) (d : Array UInt8) (w : World) (hH : Holds (fun (b : UInt8) => Value.int .u8 (b.toNat : Int)) w blk off d) (hu : u < 10 ^ d.size) (hu64 : u < 18446744073709551616) (hsz : d.size < 4611686018427387904) :
    Calls Tryd.prog 118 #[.slice (some ⟨blk, off, none⟩) d.size cap, .int .u64 u] w fun e w' =>
      e = .returned (.tuple #[]) ∧ ∃ (n v' : Nat) (dk : Array UInt8), w' = (putRow (fun (b : UInt8) => Value.int .u8 (b.toNat : Int)) w blk off dk).drewN n ∧ FmtInv d.size u 0 v' dk := Any.internal_strconv_formatBase10 Tryd.lays285 blk off cap u d w hH hu hu64 hsz
def Tryd.laysPu14_ren : Go.Shelf.Ren := ⟨fun | 14 => 63 | 16 => 90 | 17 => 91 | 19 => 110 | 20 => 111 | 21 => 112 | 22 => 113 | 23 => 114 | 24 => 115 | 25 => 130 | 27 => 77 | 26 => 131 | 28 => 99 | 29 => 123 | 30 => 116 | 31 => 117 | 32 => 118 | 33 => 119 | 35 => 133 | 34 => 132 | 36 => 134 | 37 => 135 | 38 => 136 | 39 => 143 | 40 => 72 | n => n, fun | 9 => 9 | 3 => 3 | 22 => 30 | 24 => 67 | 25 => 68 | 4 => 4 | 34 => 107 | 5 => 5 | 36 => 79 | 37 => 71 | 0 => 0 | 39 => 109 | 21 => 21 | 44 => 127 | 47 => 100 | 50 => 142 | 48 => 140 | 2 => 2 | 52 => 112 | 55 => 114 | 59 => 131 | 60 => 132 | 20 => 20 | 61 => 133 | 65 => 146 | 66 => 99 | 67 => 92 | n => n, fun | 0 => 2 | 1 => 3 | 2 => 4 | 3 => 8 | 4 => 1 | n => n⟩
theorem Tryd.laysPu14 : Go.Proofs.LaysPu.n14 Tryd.prog Tryd.laysPu14_ren := {
  mixed := by kernel_rfl
  f14 := Tryd.func63.trans (congrArg some (by kernel_rfl))
  f16 := Tryd.func90.trans (congrArg some (by kernel_rfl))
  f17 := Tryd.func91.trans (congrArg some (by kernel_rfl))
  f19 := Tryd.func110.trans (congrArg some (by kernel_rfl))
  f20 := Tryd.func111.trans (congrArg some (by kernel_rfl))
  f21 := Tryd.func112.trans (congrArg some (by kernel_rfl))
  f22 := Tryd.func113.trans (congrArg some (by kernel_rfl))
  f23 := Tryd.func114.trans (congrArg some (by kernel_rfl))
  f24 := Tryd.func115.trans (congrArg some (by kernel_rfl))
  f25 := Tryd.func130.trans (congrArg some (by kernel_rfl))
  f26 := Tryd.func131.trans (congrArg some (by kernel_rfl))
  f27 := Tryd.func77.trans (congrArg some (by kernel_rfl))
  f28 := Tryd.func99.trans (congrArg some (by kernel_rfl))
  f29 := Tryd.func123.trans (congrArg some (by kernel_rfl))
  f30 := Tryd.func116.trans (congrArg some (by kernel_rfl))
  f31 := Tryd.func117.trans (congrArg some (by kernel_rfl))
  f32 := Tryd.func118.trans (congrArg some (by kernel_rfl))
  f33 := Tryd.func119.trans (congrArg some (by kernel_rfl))
  f34 := Tryd.func132.trans (congrArg some (by kernel_rfl))
  f35 := Tryd.func133.trans (congrArg some (by kernel_rfl))
  f36 := Tryd.func134.trans (congrArg some (by kernel_rfl))
  f37 := Tryd.func135.trans (congrArg some (by kernel_rfl))
  f38 := Tryd.func136.trans (congrArg some (by kernel_rfl))
  f39 := Tryd.func143.trans (congrArg some (by kernel_rfl))
  f40 := Tryd.func72.trans (congrArg some (by kernel_rfl))
  t0 := Tryd.underlying0
  a0 := Tryd.isAgg0
  z0 := Tryd.sizeOf0
  v0 := Tryd.zeroValue0
  i0 := by kernel_rfl
  t2 := Tryd.underlying2
  a2 := Tryd.isAgg2
  z2 := Tryd.sizeOf2
  v2 := Tryd.zeroValue2
  i2 := by kernel_rfl
  t3 := Tryd.underlying3
  a3 := Tryd.isAgg3
  z3 := Tryd.sizeOf3
  v3 := Tryd.zeroValue3
  i3 := by kernel_rfl
  t4 := Tryd.underlying4
  a4 := Tryd.isAgg4
  z4 := Tryd.sizeOf4
  v4 := Tryd.zeroValue4
  i4 := by kernel_rfl
  t5 := Tryd.underlying5
  a5 := Tryd.isAgg5
  z5 := Tryd.sizeOf5
  v5 := Tryd.zeroValue5
  i5 := by kernel_rfl
  t9 := Tryd.underlying9
  a9 := Tryd.isAgg9
  z9 := Tryd.sizeOf9
  v9 := Tryd.zeroValue9
  i9 := by kernel_rfl
  t20 := Tryd.underlying20
  a20 := Tryd.isAgg20
  z20 := Tryd.sizeOf20
  v20 := Tryd.zeroValue20
  i20 := by kernel_rfl
  t21 := Tryd.underlying21
  a21 := Tryd.isAgg21
  z21 := Tryd.sizeOf21
  v21 := Tryd.zeroValue21
  i21 := by kernel_rfl
  t22 := Tryd.underlying30
  a22 := Tryd.isAgg30
  z22 := Tryd.sizeOf30
  v22 := Tryd.zeroValue30
  i22 := by kernel_rfl
  t24 := Tryd.underlying67
  a24 := Tryd.isAgg67
  z24 := Tryd.sizeOf67
  v24 := Tryd.zeroValue67
  i24 := by kernel_rfl
  t25 := Tryd.underlying68
  a25 := Tryd.isAgg68
  z25 := Tryd.sizeOf68
  v25 := Tryd.zeroValue68
  i25 := by kernel_rfl
  t34 := Tryd.underlying107
  a34 := Tryd.isAgg107
  z34 := Tryd.sizeOf107
  v34 := Tryd.zeroValue107
  i34 := by kernel_rfl
  c34 := by kernel_rfl
  t36 := Tryd.underlying79
  a36 := Tryd.isAgg79
  z36 := Tryd.sizeOf79
  v36 := Tryd.zeroValue79
  i36 := by kernel_rfl
  t37 := Tryd.underlying71
  a37 := Tryd.isAgg71
  z37 := Tryd.sizeOf71
  v37 := Tryd.zeroValue71
  i37 := by kernel_rfl
  t39 := Tryd.underlying109
  a39 := Tryd.isAgg109
  z39 := Tryd.sizeOf109
  v39 := Tryd.zeroValue109
  i39 := by kernel_rfl
  t44 := Tryd.underlying127
  a44 := Tryd.isAgg127
  z44 := Tryd.sizeOf127
  v44 := Tryd.zeroValue127
  i44 := by kernel_rfl
  t47 := Tryd.underlying100
  a47 := Tryd.isAgg100
  z47 := Tryd.sizeOf100
  v47 := Tryd.zeroValue100
  i47 := by kernel_rfl
  t48 := Tryd.underlying140
  a48 := Tryd.isAgg140
  z48 := Tryd.sizeOf140
  v48 := Tryd.zeroValue140
  i48 := by kernel_rfl
  t50 := Tryd.underlying142
  a50 := Tryd.isAgg142
  z50 := Tryd.sizeOf142
  v50 := Tryd.zeroValue142
  i50 := by kernel_rfl
  t52 := Tryd.underlying112
  a52 := Tryd.isAgg112
  z52 := Tryd.sizeOf112
  v52 := Tryd.zeroValue112
  i52 := by kernel_rfl
  t55 := Tryd.underlying114
  a55 := Tryd.isAgg114
  z55 := Tryd.sizeOf114
  v55 := Tryd.zeroValue114
  i55 := by kernel_rfl
  t59 := Tryd.underlying131
  a59 := Tryd.isAgg131
  z59 := Tryd.sizeOf131
  v59 := Tryd.zeroValue131
  i59 := by kernel_rfl
  t60 := Tryd.underlying132
  a60 := Tryd.isAgg132
  z60 := Tryd.sizeOf132
  v60 := Tryd.zeroValue132
  i60 := by kernel_rfl
  t61 := Tryd.underlying133
  a61 := Tryd.isAgg133
  z61 := Tryd.sizeOf133
  t65 := Tryd.underlying146
  a65 := Tryd.isAgg146
  z65 := Tryd.sizeOf146
  v65 := Tryd.zeroValue146
  i65 := by kernel_rfl
  t66 := Tryd.underlying99
  a66 := Tryd.isAgg99
  z66 := Tryd.sizeOf99
  v66 := Tryd.zeroValue99
  i66 := by kernel_rfl
  t67 := Tryd.underlying92
  a67 := Tryd.isAgg92
  z67 := Tryd.sizeOf92
  v67 := Tryd.zeroValue92
  i67 := by kernel_rfl
  g0 := by kernel_rfl
  m0 := by kernel_rfl
  g1 := by kernel_rfl
  m1 := by kernel_rfl
  g2 := by kernel_rfl
  m2 := by kernel_rfl
  g3 := by kernel_rfl
  m3 := by kernel_rfl
  g4 := by kernel_rfl
  m4 := by kernel_rfl }
open Go.RowKit in
theorem Tryd.strconv_ParseUint_10_at64_ok (s : ByteArray) (hmax : s.size ≤ 9223372036854775806) (u : Nat) (h : Lib.parseUintB 64 s.data.toList = .ok u) (w : World) :
    Calls Tryd.prog 63 #[.string s, .int .i64 10, .int .i64 64] w fun e w' => e = .returned (.tuple #[.int .u64 u, .nilIface]) ∧ (w' = w ∨ w' = Lib.bytesWorld w 5 s) := Any.strconv_ParseUint_10_at64_ok Tryd.laysPu14 s hmax u h w
open Go.RowKit in
theorem Tryd.strconv_ParseUint_10_at64_range (s : ByteArray) (hlim : s.size ≤ 281474976710656) (h : Lib.parseUintB 64 s.data.toList = .range) (ev : Value) (w : World) (hv : w.cell? ⟨3, 0, none⟩ = some ev) (hev : ev = .nilIface ∨ ∃ te pe, ev = .iface te pe) :
    Calls Tryd.prog 63 #[.string s, .int .i64 10, .int .i64 64] w fun e w' => ∃ N, e = .returned (.tuple #[.int .u64 18446744073709551615, .iface 109 (.pointer (some ⟨N, 0, none⟩))]) ∧ w.heap.size ≤ N ∧ w'.heap[N]? = some (.cells #[.string ⟨#[80, 97, 114, 115, 101, 85, 105, 110, 116]⟩, .string s, ev] 127 (0, 0)) ∧ Below w.heap.size w w' := Any.strconv_ParseUint_10_at64_range Tryd.laysPu14 s hlim h ev w hv hev
end Go.Proofs
namespace Go.Proofs.YtckcadhjpjjmjaaDoor
open Go.RowKit
theorem dec_lt {u : Nat} (h : u < 10) : Lib.decDigits u = [UInt8.ofNat (48 + u)] := Lib.decDigits_one h
theorem dec_ge {u : Nat} (h : ¬ u < 10) : Lib.decDigits u = Lib.decDigits (u / 10) ++ [UInt8.ofNat (48 + u % 10)] := by rw [Lib.decDigits, dif_neg h]
theorem digit_of {d : Nat} (h : d < 10) : (UInt8.ofNat (48 + d)).toNat = 48 + d := by
  rw [UInt8.toNat_ofNat']; omega
theorem dec_digits : ∀ u : Nat, ∀ b ∈ Lib.decDigits u, 48 ≤ b.toNat ∧ b.toNat ≤ 57 := by
  intro u
  induction u using Nat.strongRecOn with
  | _ u ih =>
    intro b hb
    by_cases h : u < 10
    · rw [dec_lt h] at hb
      rw [List.mem_singleton.1 hb, digit_of h]; omega
    · rw [dec_ge h] at hb
      rcases List.mem_append.1 hb with hb | hb
      · exact ih (u / 10) (by omega) b hb
      · rw [List.mem_singleton.1 hb, digit_of (by omega)]; omega
theorem dec_ne (u : Nat) : Lib.decDigits u ≠ [] := by
  by_cases h : u < 10
  · rw [dec_lt h]; simp
  · rw [dec_ge h]; simp
theorem dec_len {u : Nat} (h : u < 18446744073709551616) : (Lib.decDigits u).length ≤ 20 := by
  have step : ∀ n u : Nat, u < 10 ^ n → 1 ≤ n → (Lib.decDigits u).length ≤ n := by
    intro n
    induction n with
    | zero => intro u _ h; omega
    | succ n ih =>
      intro u hu _
      by_cases h : u < 10
      · rw [dec_lt h]; simp
      · rw [dec_ge h, List.length_append, List.length_singleton]
        have hn : 1 ≤ n := by
          rcases Nat.eq_zero_or_pos n with h0 | h0
          · subst h0; simp at hu; omega
          · exact h0
        have := ih (u / 10) (by rw [Nat.pow_succ] at hu; omega) hn
        omega
  exact step 20 u (by omega) (by decide)
theorem parse_dec (M : Nat) (hM : M = 18446744073709551615) : ∀ (u : Nat) (t : List UInt8), u ≤ M → Lib.parseUintM M 0 (Lib.decDigits u ++ t) = Lib.parseUintM M u t := by
  intro u
  induction u using Nat.strongRecOn with
  | _ u ih =>
    intro t hu
    by_cases h : u < 10
    · rw [dec_lt h, List.singleton_append, Lib.parseUintM, digit_of h, if_pos (by omega), if_neg (by omega), if_neg (by omega)]
      congr 1
      omega
    · rw [dec_ge h, List.append_assoc, ih (u / 10) (by omega) _ (by omega), List.singleton_append, Lib.parseUintM, digit_of (by omega), if_pos (by omega), if_neg (by omega), if_neg (by omega)]
      congr 1
      omega
/-- A text's number. -/
def numB (x : List UInt8) : Option Nat := match Lib.parseUintB 64 x with
  | .ok u => if Lib.decDigits u = x then some u else none
  | _ => none
theorem num_dec {u : Nat} (h : u < 18446744073709551616) : numB (Lib.decDigits u) = some u := by
  have e : Lib.parseUintB 64 (Lib.decDigits u) = .ok u := by
    rw [Lib.parseUintB, if_neg (dec_ne u)]
    have := parse_dec 18446744073709551615 rfl u [] (by omega)
    rw [List.append_nil] at this
    exact this
  rw [numB, e]
  exact if_pos rfl
theorem parse_lt (M : Nat) : ∀ (l : List UInt8) (acc u : Nat), acc ≤ M → Lib.parseUintM M acc l = .ok u → u ≤ M
  | [], acc, u, ha, h => by rw [Lib.parseUintM] at h; cases h; exact ha
  | c :: r, acc, u, ha, h => by
    rw [Lib.parseUintM] at h
    split at h
    · split at h
      · cases h
      · split at h
        · cases h
        · exact parse_lt M r _ u (by omega) h
    · cases h
theorem num_lt {x : List UInt8} {u : Nat} (h : numB x = some u) : u < 18446744073709551616 ∧ Lib.decDigits u = x := by
  unfold numB at h
  split at h
  · rename_i v hv
    split at h
    · rename_i he
      obtain rfl : v = u := Option.some.inj h
      refine ⟨?_, he⟩
      unfold Lib.parseUintB at hv
      split at hv
      · cases hv
      · have := parse_lt (2 ^ 64 - 1) x 0 v (by decide) hv
        omega
    · cases h
  · cases h
/-- The document's way: letter by letter, around 2^64. -/
def stepG (M c acc : Nat) (b : UInt8) : Nat := (acc * 10 + b.toNat + c) % M
theorem stepG_eq (M c acc : Nat) (b : UInt8) : stepG M c acc b = (acc * 10 + b.toNat + c) % M := rfl
theorem stepG_lt (M c acc : Nat) (b : UInt8) (h : 0 < M) : stepG M c acc b < M := Nat.mod_lt _ h
theorem stepG_dec (M c : Nat) (hM : M = 18446744073709551616) (hc : c = 18446744073709551568) {u : Nat} (hu : u < M) {d : Nat} (hd : d < 10) (v : Nat) (hv : v * 10 + d = u) : stepG M c v (UInt8.ofNat (48 + d)) = u := by
  rw [stepG_eq, digit_of hd]
  subst hM hc
  omega
def foldG (M c acc : Nat) (l : List UInt8) : Nat := l.foldl (stepG M c) acc
theorem foldG_app (M c acc : Nat) (a b : List UInt8) : foldG M c acc (a ++ b) = foldG M c (foldG M c acc a) b := List.foldl_append
theorem foldG_one (M c acc : Nat) (b : UInt8) : foldG M c acc [b] = stepG M c acc b := rfl
theorem foldG_snoc (M c acc : Nat) (a : List UInt8) (b : UInt8) : foldG M c acc (a ++ [b]) = stepG M c (foldG M c acc a) b := by rw [foldG_app, foldG_one]
theorem foldG_nil (M c acc : Nat) : foldG M c acc [] = acc := rfl
theorem foldG_lt (M c : Nat) (hM : 0 < M) : ∀ (l : List UInt8) (acc : Nat), acc < M → foldG M c acc l < M := by
  intro l
  induction l with
  | nil => intro acc h; exact h
  | cons b t ih =>
    intro acc _
    have := ih (stepG M c acc b) (stepG_lt M c acc b hM)
    rwa [foldG] at this ⊢
theorem fold_dec (M c : Nat) (hM : M = 18446744073709551616) (hc : c = 18446744073709551568) : ∀ u : Nat, u < M → foldG M c 0 (Lib.decDigits u) = u := by
  intro u
  induction u using Nat.strongRecOn with
  | _ u ih =>
    intro hu
    by_cases h : u < 10
    · rw [dec_lt h, foldG_one, stepG_dec M c hM hc hu h 0 (by omega)]
    · rw [dec_ge h, foldG_app, ih (u / 10) (by omega) (by omega), foldG_one, stepG_dec M c hM hc hu (by omega) (u / 10) (by omega)]
def oddD (x : List UInt8) : Bool := x.any fun b => decide (b.toNat < 48) || decide (57 < b.toNat)
/-- Both ways read the same. -/
theorem num_ref (M c : Nat) (hM : M = 18446744073709551616) (hc : c = 18446744073709551568) (x : List UInt8) : numB x = if 20 < x.length then none else if oddD x = true then none else if Lib.decDigits (foldG M c 0 x) = x then some (foldG M c 0 x) else none := by
  cases hn : numB x with
  | some u =>
    obtain ⟨h1, h2⟩ := num_lt hn
    have hl := dec_len h1
    rw [h2] at hl
    have hf := fold_dec M c hM hc u (by omega)
    rw [h2] at hf
    have ho : ¬ oddD x = true := by
      intro h
      obtain ⟨b, hb, h3⟩ := List.any_eq_true.1 h
      have := dec_digits u b (by rw [h2]; exact hb)
      simp at h3
      omega
    rw [if_neg (by omega), if_neg ho, hf, if_pos h2]
  | none =>
    by_cases h1 : 20 < x.length
    · rw [if_pos h1]
    · rw [if_neg h1]
      by_cases h2 : oddD x = true
      · rw [if_pos h2]
      · rw [if_neg h2]
        by_cases h3 : Lib.decDigits (foldG M c 0 x) = x
        · exfalso
          have hlt := foldG_lt M c (by omega) x 0 (by omega)
          have := num_dec (u := foldG M c 0 x) (by omega)
          rw [h3, hn] at this
          cases this
        · rw [if_neg h3]
end Go.Proofs.YtckcadhjpjjmjaaDoor
namespace Go.Proofs.YtckcadhjpjjmjaaDoor
open Go.RowKit Go.Sort
theorem holds_zero0 (w : World) (T : TypeId) (nd : Nat) (hs : nd ≤ 24) : Holds (fun (b : UInt8) => Value.int .u8 (b.toNat : Int)) (w.alloc (.cells Lib.zeros24 T)) w.heap.size 0 (Array.replicate nd (0 : UInt8)) := fun j hj => by
  have hj' : j < nd := by simpa using hj
  refine ⟨?_, World.frozen?_alloc_new _ _ _ _⟩
  rw [World.cell?_alloc_new, Lib.zeros24_at _ (by omega), getElem!_pos _ j hj]
  simp
set_option maxRecDepth 100000 in
set_option maxHeartbeats 1600000 in
theorem c_ifmtuint (u : Nat) (w : World) (hu64 : u < 18446744073709551616) (htab : Lib.TabIs Tryd.prog w "internal/strconv.uint64pow10" .u64 Lib.pow10Tab) :
    Calls Tryd.prog 92 #[.int .u64 (u : Int), .int .i64 10] w fun e w' => e = .returned (.string (txt (Lib.decDigits u))) ∧ Below w.heap.size w w' := by
  by_cases hs : u < 100
  · have hs' : (u : Int) < 100 := by omega
    go_enter Tryd.func92, Tryd.ntmps92
    go_wp2_with fail
    refine (Tryd.internal_strconv_small u hs w).mono ?_
    rintro e w1 ⟨rfl, rfl⟩
    go_wp2_with fail
    go_ret
    exact ⟨rfl, Below.refl _ _⟩
  · have hs' : ¬ (u : Int) < 100 := by omega
    have hu1 : 1 ≤ u := by omega
    have hnd20 : Lib.nDigits u ≤ 20 := by rw [← Lib.decDigits_length]; exact dec_len hu64
    have hal : Tryd.prog.arrayLen 112 = 24 := by kernel_rfl
    have hsl1 : ∀ W, (Instr.sliceAt 112 (.pointer (some ⟨w.heap.size, 0, none⟩)) none (some (.int .i64 (Lib.nDigits u : Int))) none).run Tryd.prog W = .ok (.slice (some ⟨w.heap.size, 0, none⟩) (Lib.nDigits u) 24) W := fun W => by
      rw [run_sliceAt_array_h W 112 ⟨w.heap.size, 0, none⟩ (by simp [Program.arrayLen, Program.elem, Tryd.underlying112]) .i64 (Lib.nDigits u : Int) (by omega) (by rw [hal]; omega)]
      go_simp
    have hH0 := holds_zero0 w 112 (Lib.nDigits u) (by omega)
    have hfmt := Tryd.internal_strconv_formatBase10 w.heap.size 0 24 u (Array.replicate (Lib.nDigits u) 0) (w.alloc (.cells Lib.zeros24 112)) hH0 (by rw [Array.size_replicate]; exact Lib.lt_pow_nDigits u) hu64 (by rw [Array.size_replicate]; omega)
    rw [Array.size_replicate] at hfmt
    have HH0 := hide hH0
    have HT := hide (Lib.tabIs_alloc htab (.cells Lib.zeros24 112))
    have HF := hide hfmt
    clear hH0 hal hfmt htab
    go_enter Tryd.func92, Tryd.ntmps92
    go_wp2_with fail
    refine (Tryd.internal_strconv_numDigits u hu1 hu64 _ HT.out).mono ?_
    rintro e w1 ⟨rfl, rfl⟩
    go_wp2_with fail
    refine HF.out.mono ?_
    rintro e w2 ⟨rfl, k, v', dk, rfl, hF⟩
    have hcv : (convert 71 9 (.slice (some ⟨w.heap.size, 0, none⟩) (Lib.nDigits u) 24)).run Tryd.prog ((putRow (fun (b : UInt8) => Value.int .u8 (b.toNat : Int)) (w.alloc (.cells Lib.zeros24 112)) w.heap.size 0 dk).drewN k) = .ok (.string (txt (Lib.decDigits u))) ((putRow (fun (b : UInt8) => Value.int .u8 (b.toNat : Int)) (w.alloc (.cells Lib.zeros24 112)) w.heap.size 0 dk).drewN k) := by
      have h := run_convert_bytes_back (P := Tryd.prog) ((putRow (fun (b : UInt8) => Value.int .u8 (b.toNat : Int)) (w.alloc (.cells Lib.zeros24 112)) w.heap.size 0 dk).drewN k) 71 9 5 ⟨w.heap.size, 0, none⟩ 24 (Lib.decDigits u) Tryd.underlying71 Tryd.underlying5 Tryd.underlying9 (fun j hj => by
        rw [Lib.row_is_numeral hF j hj, Lib.add_plain, World.cell?_drewN]
        exact cell?_putRow (fun (b : UInt8) => Value.int .u8 (b.toNat : Int)) _ w.heap.size 0 _ dk HH0.out (by rw [hF.size, Array.size_replicate]) j (by rw [hF.size]; rw [Lib.decDigits_length] at hj; exact hj))
      rw [Lib.decDigits_length] at h
      exact h
    have HB : Hid (Below w.heap.size w ((putRow (fun (b : UInt8) => Value.int .u8 (b.toNat : Int)) (w.alloc (.cells Lib.zeros24 112)) w.heap.size 0 dk).drewN k)) := hide (by
      have hfin : ∃ os, (putRow (fun (b : UInt8) => Value.int .u8 (b.toNat : Int)) (w.alloc (.cells Lib.zeros24 112)) w.heap.size 0 dk).drewN k = grow (w.drewN k) os := by
        rw [alloc_eq_grow]
        obtain ⟨os', _, e⟩ := putRow_grow_new (fun (b : UInt8) => Value.int .u8 (b.toNat : Int)) w #[.cells Lib.zeros24 112] w.heap.size 0 dk (Nat.le_refl _)
        exact ⟨os', by rw [e]; rfl⟩
      obtain ⟨os, e⟩ := hfin
      rw [e]
      exact below_grown_sl _ w k os (Nat.le_refl _))
    go_wp2_with fail
    go_ret
    exact ⟨rfl, HB.out⟩
theorem c_fmtuint (u : Nat) (w : World) (hu64 : u < 18446744073709551616) (htab : Lib.TabIs Tryd.prog w "internal/strconv.uint64pow10" .u64 Lib.pow10Tab) :
    Calls Tryd.prog 64 #[.int .u64 (u : Int), .int .i64 10] w fun e w' => e = .returned (.string (txt (Lib.decDigits u))) ∧ Below w.heap.size w w' := by
  have HC := hide (c_ifmtuint u w hu64 htab)
  clear htab
  go_enter Tryd.func64, Tryd.ntmps64
  go_wp2_with fail
  refine HC.out.mono ?_
  rintro e w1 ⟨rfl, b1⟩
  go_wp2_with fail
  go_ret
  exact ⟨rfl, b1⟩
end Go.Proofs.YtckcadhjpjjmjaaDoor
namespace Go.Proofs.YtckcadhjpjjmjaaDoor
open Go.RowKit
theorem one_row8 {w : World} {g : Nat} {b : UInt8} {E : TypeId} {fr : Nat × Nat} (hg : w.heap[g]? = some (.cells #[bv b] E fr)) : kU8.Row (fun _ => True) w (some ⟨g, 0, none⟩) 1 1 [b] := by
  refine ⟨rfl, Nat.le_refl _, by simp [maxLen], fun _ => ⟨g, 0, rfl, trivial, (Array.getElem?_eq_some_iff.1 hg).1, fun i y hy => ?_⟩⟩
  have hi : i = 0 := by have := (List.getElem?_eq_some_iff.1 hy).1; simp at this; omega
  subst hi
  obtain rfl : b = y := by simpa using hy
  refine ⟨[bv b], ⟨rfl, trivial⟩, fun j u hu => ?_⟩
  rw [cell_of_row _ _ _ _ _ _ hg, ← Array.getElem?_toList]
  simpa using hu
set_option maxRecDepth 100000 in
set_option maxHeartbeats 1600000 in
theorem c_digits : ∀ (u : Nat) (w : World), u < 18446744073709551616 → Calls Tryd.prog 40 #[.int .u64 (u : Int)] w fun e w' => e = .returned (.string (txt (Lib.decDigits u))) ∧ Below w.heap.size w w' := by
  intro u
  induction u using Nat.strongRecOn with
  | _ u ih =>
    intro w hu
    by_cases h : u < 10
    · have h' : (u : Int) < 10 := by omega
      have HE : Hid (Lib.decDigits u = [UInt8.ofNat (48 + u)]) := hide (dec_lt h)
      obtain ⟨y, hy⟩ : ∃ y, y = UInt8.ofNat (48 + u) := ⟨_, rfl⟩
      have hyn : y.toNat = 48 + u := by rw [hy, digit_of h]
      have e8 : Value.int .u8 (48 + (u : Int)) = bv y := by show _ = Value.int .u8 (y.toNat : Int); rw [hyn]; rfl
      have hq := row_string (P := Tryd.prog) Tryd.underlying71 Tryd.underlying5 Tryd.underlying9 (one_row8 (E := 5) (heap_alloc_new w (.cells #[bv y] 5)))
      rw [← e8] at hq
      rw [← hy] at HE
      clear hy hyn
      clear ih e8
      go_enter Tryd.func40, Tryd.ntmps40
      go_wp2_with fail
      go_ret
      exact ⟨by rw [HE.out]; rfl, (Below.refl _ _).alloc (Nat.le_refl _) _⟩
    · have h' : ¬ (u : Int) < 10 := by omega
      have HE : Hid (Lib.decDigits u = Lib.decDigits (u / 10) ++ [UInt8.ofNat (48 + u % 10)]) := hide (dec_ge h)
      have IH := hide ih
      clear ih
      go_enter Tryd.func40, Tryd.ntmps40
      have e10 : Hid ((u : Int) / 10 = ((u / 10 : Nat) : Int)) := hide (by omega)
      have e11 : Hid ((u : Int) % 10 = ((u % 10 : Nat) : Int)) := hide (by omega)
      go_wp2_with fail
      rw [e10.out]
      refine (IH.out (u / 10) (by omega) w (by omega)).mono ?_
      rintro e w1 ⟨rfl, b1⟩
      have hp := dec_len (u := u / 10) (by omega)
      have hq := dec_len (u := u % 10) (by omega)
      have HD : Hid (Lib.decDigits (u % 10) = [UInt8.ofNat (48 + u % 10)]) := hide (dec_lt (by omega))
      rw [← HD.out] at HE
      obtain ⟨p, hp0⟩ : ∃ p, Lib.decDigits (u / 10) = p := ⟨_, rfl⟩
      rw [hp0] at hp HE ⊢
      have HB1 := hide b1
      clear b1 hp0
      go_wp2_with fail
      rw [e11.out]
      refine (IH.out (u % 10) (by omega) w1 (by omega)).mono ?_
      rintro e w2 ⟨rfl, b2⟩
      obtain ⟨q, hq0⟩ : ∃ q, Lib.decDigits (u % 10) = q := ⟨_, rfl⟩
      rw [hq0] at hq HE ⊢
      have HB2 := hide (HB1.out.trans (b2.mono HB1.out.size))
      have hnz : ¬ 9223372036854775807 < p.length + q.length := by omega
      clear b2 hq0 HD IH e10 e11
      go_wp2_with fail
      go_ret
      exact ⟨by rw [HE.out, ← txt_app2]; rfl, HB2.out⟩
end Go.Proofs.YtckcadhjpjjmjaaDoor
namespace Go.Proofs.YtckcadhjpjjmjaaDoor
open Go.RowKit
/-- What the reading of numbers wants of the world: the library's table, its two errors. -/
def NumAt (w : World) : Prop :=
  Lib.TabIs Tryd.prog w "internal/strconv.uint64pow10" .u64 Lib.pow10Tab ∧
  (∃ ev, w.cell? ⟨2, 0, none⟩ = some ev ∧ (ev = .nilIface ∨ ∃ te pe, ev = .iface te pe)) ∧
  (∃ ev, w.cell? ⟨3, 0, none⟩ = some ev ∧ (ev = .nilIface ∨ ∃ te pe, ev = .iface te pe))
theorem tab_below {w w' : World} {name : String} {k : IntKind} {zs : List Int} (h : Lib.TabIs Tryd.prog w name k zs) (hb : Below w.heap.size w w') : Lib.TabIs Tryd.prog w' name k zs := by
  unfold Lib.TabIs World.var? at *
  cases hg : Tryd.prog.globalNamed name with
  | none => simp [hg] at h
  | some g =>
    simp only [hg, Option.bind_some] at h ⊢
    have hlt : g < w.heap.size := by
      rcases Nat.lt_or_ge g w.heap.size with h' | h'
      · exact h'
      · rw [Array.getElem?_eq_none h'] at h; simp at h
    rw [hb.block g hlt]
    exact h
theorem NumAt.below {w w' : World} (h : NumAt w) (hb : Below w.heap.size w w') : NumAt w' := by
  obtain ⟨h1, ⟨ev, h2, h3⟩, ⟨ew, h4, h5⟩⟩ := h
  exact ⟨tab_below h1 hb, ⟨ev, (hb.cell (p := ⟨2, 0, none⟩) (World.block_lt_of_cell? _ _ h2)).trans h2, h3⟩, ⟨ew, (hb.cell (p := ⟨3, 0, none⟩) (World.block_lt_of_cell? _ _ h4)).trans h4, h5⟩⟩
theorem wrap_step (M c : Nat) (hM : M = 18446744073709551616) (hc : c = 18446744073709551568) (r : Nat) (b : UInt8) : IntKind.u64.wrap (IntKind.u64.wrap (IntKind.u64.wrap ((r : Int) * 10) + (b.toNat : Int)) - 48) = ((stepG M c r b : Nat) : Int) := by
  rw [stepG_eq, IntKind.wrap_u64, IntKind.wrap_u64, IntKind.wrap_u64]
  subst hM hc
  omega
def numV (o : Option Nat) : Value := .tuple #[.int .u64 ((o.getD 0 : Nat) : Int), .bool o.isSome]
set_option maxRecDepth 100000 in
set_option maxHeartbeats 1600000 in
theorem c_lnumber (x : List UInt8) (w : World) (hx : x.length ≤ 1000000) (hN : NumAt w) :
    Calls Tryd.prog 35 #[.string (txt x)] w fun e w' => e = .returned (numV (numB x)) ∧ Below w.heap.size w w' := by
  have hsz : (txt x).size ≤ 1000000 := by rw [txt_size]; exact hx
  obtain ⟨r, hr⟩ : ∃ r, Lib.parseUintB 64 x = r := ⟨_, rfl⟩
  have hr2 : Lib.parseUintB 64 (txt x).data.toList = r := by rw [← hr]
  rcases r with u | _ | _
  · have HB : Hid (numB x = if Lib.decDigits u = x then some u else none) := hide (by rw [numB, hr])
    have hu : u < 18446744073709551616 := by
      unfold Lib.parseUintB at hr
      split at hr
      · cases hr
      · have := parse_lt (2 ^ 64 - 1) x 0 u (by decide) hr
        omega
    have hP := Tryd.strconv_ParseUint_10_at64_ok (txt x) (by omega) u hr2 w
    have HN := hide hN
    have HP := hide hP
    clear hr hr2 hN hP
    go_enter Tryd.func35, Tryd.ntmps35
    go_wp2_with fail
    refine HP.out.mono ?_
    rintro e w1 ⟨rfl, hw1⟩
    have b1 : Below w.heap.size w w1 := by
      rcases hw1 with rfl | rfl
      · exact Below.refl _ _
      · exact bytesWorld_below _ _ _
    have HB1 := hide b1
    have HN1 := hide (HN.out.below b1)
    clear b1 hw1 HP
    go_wp2_with fail
    refine (c_fmtuint u w1 hu HN1.out.1).mono ?_
    rintro e w2 ⟨rfl, b2⟩
    have HB2 := hide (HB1.out.trans (b2.mono HB1.out.size))
    obtain ⟨D, hD⟩ : ∃ D, Lib.decDigits u = D := ⟨_, rfl⟩
    rw [hD] at HB ⊢
    clear b2 hD
    by_cases hDx : D = x
    · have HE : Hid (numB x = some u) := hide (by rw [HB.out, if_pos hDx])
      subst hDx
      go_wp2_with fail
      exact bodyPost_ret (v := .tuple #[.int .u64 (u : Int), .bool true]) (by simp [results, Tryd.results35, go_sem]) rfl ⟨by rw [HE.out]; rfl, HB2.out⟩
    · have HE : Hid (numB x = none) := hide (by rw [HB.out, if_neg hDx])
      have hbq : (D == x) = false := beq_eq_false_iff_ne.2 hDx
      go_wp2_with fail
      exact bodyPost_ret (v := .tuple #[.int .u64 0, .bool false]) (by simp [results, Tryd.results35, go_sem]) rfl ⟨by rw [HE.out]; rfl, HB2.out⟩
  · have HE : Hid (numB x = none) := hide (by rw [numB, hr])
    obtain ⟨ev, hv, hev⟩ := hN.2.1
    have HP : Hid (Calls Tryd.prog 63 #[.string (txt x), .int .i64 10, .int .i64 64] w fun e w' => ∃ N, e = .returned (.tuple #[.int .u64 0, .iface 109 (.pointer (some ⟨N, 0, none⟩))]) ∧ Below w.heap.size w w') := hide ((Any.strconv_ParseUint_10_at64_syntax Tryd.laysPu14 (txt x) (by omega) hr2 ev w hv hev).mono fun e w' ⟨N, h1, _, _, h4⟩ => ⟨N, h1, h4⟩)
    clear hr hr2 hN hv hev
    go_enter Tryd.func35, Tryd.ntmps35
    go_wp2_with fail
    refine HP.out.mono ?_
    rintro e w1 ⟨N, rfl, b1⟩
    have HB1 := hide b1
    clear b1 HP
    go_wp2_with fail
    exact bodyPost_ret (v := .tuple #[.int .u64 0, .bool false]) (by simp [results, Tryd.results35, go_sem]) rfl ⟨by rw [HE.out]; rfl, HB1.out⟩
  · have HE : Hid (numB x = none) := hide (by rw [numB, hr])
    obtain ⟨ev, hv, hev⟩ := hN.2.2
    have HP := hide (Tryd.strconv_ParseUint_10_at64_range (txt x) (by omega) hr2 ev w hv hev)
    clear hr hr2 hN hv hev
    go_enter Tryd.func35, Tryd.ntmps35
    go_wp2_with fail
    refine HP.out.mono ?_
    rintro e w1 ⟨N, rfl, -, -, b1⟩
    have HB1 := hide b1
    clear b1 HP
    go_wp2_with fail
    exact bodyPost_ret (v := .tuple #[.int .u64 0, .bool false]) (by simp [results, Tryd.results35, go_sem]) rfl ⟨by rw [HE.out]; rfl, HB1.out⟩
set_option maxRecDepth 100000 in
set_option maxHeartbeats 1600000 in
theorem c_rnumber (x : List UInt8) (w : World) (hx : x.length ≤ 1000000) :
    Calls Tryd.prog 36 #[.string (txt x)] w fun e w' => e = .returned (numV (numB x)) ∧ Below w.heap.size w w' := by
  obtain ⟨M, hM⟩ : ∃ M, M = 18446744073709551616 := ⟨_, rfl⟩
  obtain ⟨c, hc⟩ : ∃ c, c = 18446744073709551568 := ⟨_, rfl⟩
  have hNR := num_ref M c hM hc x
  have hsz : (txt x).size = x.length := txt_size x
  obtain ⟨n, hn⟩ : ∃ n, x.length = n := ⟨_, rfl⟩
  rw [hn] at hsz hx hNR
  have HL := hide hn
  have HM := hide hM
  have HC := hide hc
  clear hn hM hc
  by_cases h20 : 20 < n
  · have h20' : (20 : Int) < n := by omega
    have HE : Hid (numB x = none) := hide (by rw [hNR, if_pos h20])
    clear hNR
    go_enter Tryd.func36, Tryd.ntmps36
    go_wp2_with fail
    exact bodyPost_ret (v := .tuple #[.int .u64 0, .bool false]) (by simp [results, Tryd.results36, go_sem]) rfl ⟨by rw [HE.out]; rfl, Below.refl _ _⟩
  · have h20' : ¬ (20 : Int) < n := by omega
    have HNR := hide hNR
    clear hNR
    go_enter Tryd.func36, Tryd.ntmps36
    go_wp2_with fail
    go_loop [4, 5] (fun q i => ∃ (k r : Nat), k ≤ n ∧ i = .int .i64 (k : Int) ∧ q = .int .u64 (r : Int) ∧ r < 18446744073709551616 ∧ Hid (r = foldG M c 0 (x.take k)) ∧ Hid (oddD (x.take k) = false)) (fun _ i => n - (intOf i).toNat)
    case atStart => exact ⟨0, 0, Nat.zero_le _, rfl, rfl, by decide, hide rfl, hide rfl⟩
    case round =>
      obtain ⟨k, r, hk, rfl, rfl, hr, HF, HT⟩ := hrel
      by_cases hlt : k < n
      · obtain ⟨y, hy⟩ : ∃ y, x[k]? = some y := ⟨_, List.getElem?_eq_getElem (by have := HL.out; omega)⟩
        have hix := txt_byte (P := Tryd.prog) Tryd.underlying9 hy .i64
        have hT2 : oddD (x.take (k + 1)) = (decide (y.toNat < 48) || decide (57 < y.toNat)) := by
          have h := HT.out
          unfold oddD at h ⊢
          rw [List.take_add_one, hy, List.any_append, h, Bool.false_or]
          simp
        have HF2 : Hid (stepG M c r y = foldG M c 0 (x.take (k + 1))) := hide (by
          rw [List.take_add_one, hy, HF.out]
          exact (foldG_snoc M c 0 _ y).symm)
        have hmem : y ∈ x := List.mem_of_getElem? hy
        clear hy
        by_cases ha : y.toNat < 48
        · have HE : Hid (numB x = none) := hide (by rw [HNR.out, if_neg h20, if_pos (show oddD x = true from List.any_eq_true.2 ⟨y, hmem, by simp; omega⟩)])
          have ha' : (y.toNat : Int) < 48 := by omega
          clear hT2
          go_wp2_with fail
          exact bodyPost_ret (v := .tuple #[.int .u64 0, .bool false]) (by simp [results, Tryd.results36, go_sem]) rfl ⟨by rw [HE.out]; rfl, Below.refl _ _⟩
        · have ha' : ¬ (y.toNat : Int) < 48 := by omega
          by_cases hz : 57 < y.toNat
          · have HE : Hid (numB x = none) := hide (by rw [HNR.out, if_neg h20, if_pos (show oddD x = true from List.any_eq_true.2 ⟨y, hmem, by simp; omega⟩)])
            have hz' : (57 : Int) < (y.toNat : Int) := by omega
            clear hT2
            go_wp2_with fail
            exact bodyPost_ret (v := .tuple #[.int .u64 0, .bool false]) (by simp [results, Tryd.results36, go_sem]) rfl ⟨by rw [HE.out]; rfl, Below.refl _ _⟩
          · have hz' : ¬ (57 : Int) < (y.toNat : Int) := by omega
            have HT2 : Hid (oddD (x.take (k + 1)) = false) := hide (by rw [hT2, decide_eq_false ha, decide_eq_false hz]; rfl)
            clear hT2
            go_wp2_with fail
            go_round
            case rel => exact ⟨k + 1, stepG M c r y, by omega, by simp, congrArg (Value.int .u64) (wrap_step M c HM.out HC.out r y), by have := stepG_lt M c r y (by have := HM.out; omega); have := HM.out; omega, HF2, HT2⟩
            case measure => simp [intOf]; omega
      · obtain rfl : k = n := by omega
        have HO : Hid (numB x = if Lib.decDigits r = x then some r else none) := hide (by
          have h1 := HF.out
          have h2 := HT.out
          rw [List.take_of_length_le (Nat.le_of_eq HL.out)] at h1 h2
          rw [HNR.out, if_neg h20, h2, h1]
          rfl)
        go_wp2_with fail
        refine (c_digits r w hr).mono ?_
        rintro e w2 ⟨rfl, b2⟩
        have HB2 := hide b2
        obtain ⟨D, hD⟩ : ∃ D, Lib.decDigits r = D := ⟨_, rfl⟩
        rw [hD] at HO ⊢
        clear b2 hD
        by_cases hDx : D = x
        · have HE : Hid (numB x = some r) := hide (by rw [HO.out, if_pos hDx])
          subst hDx
          go_wp2_with fail
          exact bodyPost_ret (v := .tuple #[.int .u64 (r : Int), .bool true]) (by simp [results, Tryd.results36, go_sem]) rfl ⟨by rw [HE.out]; rfl, HB2.out⟩
        · have HE : Hid (numB x = none) := hide (by rw [HO.out, if_neg hDx])
          have hbq : (D == x) = false := beq_eq_false_iff_ne.2 hDx
          go_wp2_with fail
          exact bodyPost_ret (v := .tuple #[.int .u64 0, .bool false]) (by simp [results, Tryd.results36, go_sem]) rfl ⟨by rw [HE.out]; rfl, HB2.out⟩
end Go.Proofs.YtckcadhjpjjmjaaDoor
namespace Go.Proofs.YtckcadhjpjjmjaaDoor
open Go.RowKit
set_option maxRecDepth 100000 in
set_option maxHeartbeats 3200000 in
theorem c_lextells (x : List UInt8) (m : Int) (w : World) (hs : x.length ≤ 9223372036854775807) (hm : w.cell? ⟨5, 0, none⟩ = some (.int .i64 m)) (hN : NumAt w) :
    Calls Tryd.prog 7 #[.string (txt x)] w fun e w' => e = .returned (.bool true) ∧ Below w.heap.size w w' := by
  have h5 : 5 < w.heap.size := World.block_lt_of_cell? _ _ hm
  obtain ⟨n, hn⟩ : ∃ n, x.length = n := ⟨_, rfl⟩
  have hsz : (txt x).size = n := by rw [txt_size, hn]
  have HL := hide hn
  rw [hn] at hs
  have HM := hide hm
  have HN := hide hN
  obtain ⟨wo, hwo⟩ : ∃ o, wordsB x = o := ⟨_, rfl⟩
  obtain ⟨no, hno⟩ : ∃ o, namesB geS x = o := ⟨_, rfl⟩
  obtain ⟨nv, nb, hnv⟩ : ∃ (nv : Nat) (nb : Bool), numV (numB x) = .tuple #[.int .u64 (nv : Int), .bool nb] := ⟨_, _, rfl⟩
  obtain ⟨wb, hwb⟩ : ∃ b, wo.isSome = b := ⟨_, rfl⟩
  obtain ⟨sb, hsb⟩ : ∃ b, no.isSome = b := ⟨_, rfl⟩
  have HWO := hide hwo
  have HNO := hide hno
  have HNV := hide hnv
  have HWB := hide hwb
  have HSB := hide hsb
  clear hm hN hn hwo hno hnv hwb hsb
  by_cases hbig : 2000 < n
  · have hbig' : (2000 : Int) < (n : Int) := by omega
    go_enter Tryd.func7, Tryd.ntmps7
    go_wp2_with fail
    refine (c_lxalive m w HM.out).mono ?_
    rintro e w1 ⟨rfl, b1⟩
    go_wp2_with fail
    go_ret
    exact ⟨rfl, b1⟩
  · have hbig' : ¬ (2000 : Int) < (n : Int) := by omega
    have hx : x.length ≤ 1000000 := by have := HL.out; omega
    have HX := hide hx
    clear hx
    go_enter Tryd.func7, Tryd.ntmps7
    go_wp2_with fail
    refine (c_lxalive m w HM.out).mono ?_
    rintro e w1 ⟨rfl, b1⟩
    have HB1 := hide b1
    have HM1 := hide ((b1.cell (p := ⟨5, 0, none⟩) h5).trans HM.out)
    have HN1 := hide (HN.out.below b1)
    have hs1 := b1.size
    clear b1
    go_wp2_with fail
    refine (c_words x m w1 HX.out HM1.out).mono ?_
    rintro e w2 ⟨A2, n2, c2, rfl, hr2, b2⟩
    rw [HWO.out] at hr2 ⊢
    rw [HWB.out]
    have HB2 := hide (HB1.out.trans (b2.mono HB1.out.size))
    have HM2 := hide ((b2.cell (p := ⟨5, 0, none⟩) (show 5 < w1.heap.size from by omega)).trans HM1.out)
    have HN2 := hide (HN1.out.below b2)
    have HRa2 := hide hr2
    have hs2 := b2.size
    clear b2 hr2
    go_wp2_with fail
    refine (c_rwords x w2 HX.out).mono ?_
    rintro e w3 ⟨A3, n3, c3, rfl, hr3, b3⟩
    rw [HWO.out] at hr3 ⊢
    rw [HWB.out]
    have HB3 := hide (HB2.out.trans (b3.mono HB2.out.size))
    have HM3 := hide ((b3.cell (p := ⟨5, 0, none⟩) (show 5 < w2.heap.size from by omega)).trans HM2.out)
    have HN3 := hide (HN2.out.below b3)
    have HRa3 := hide (HRa2.out.below b3)
    have HRb3 := hide hr3
    have hs3 := b3.size
    clear b3 hr3
    go_wp2_with fail
    refine (c_lnumber x w3 HX.out HN3.out).mono ?_
    rintro e w4 ⟨rfl, b4⟩
    rw [HNV.out]
    have HB4 := hide (HB3.out.trans (b4.mono HB3.out.size))
    have HM4 := hide ((b4.cell (p := ⟨5, 0, none⟩) (show 5 < w3.heap.size from by omega)).trans HM3.out)
    have HRa4 := hide (HRa3.out.below b4)
    have HRb4 := hide (HRb3.out.below b4)
    have hs4 := b4.size
    clear b4
    go_wp2_with fail
    refine (c_rnumber x w4 HX.out).mono ?_
    rintro e w5 ⟨rfl, b5⟩
    rw [HNV.out]
    have HB5 := hide (HB4.out.trans (b5.mono HB4.out.size))
    have HM5 := hide ((b5.cell (p := ⟨5, 0, none⟩) (show 5 < w4.heap.size from by omega)).trans HM4.out)
    have HRa5 := hide (HRa4.out.below b5)
    have HRb5 := hide (HRb4.out.below b5)
    have hs5 := b5.size
    clear b5
    go_wp2_with fail
    refine (c_lnames x m w5 HX.out HM5.out).mono ?_
    rintro e w6 ⟨A6, n6, c6, rfl, hr6, b6⟩
    rw [HNO.out] at hr6 ⊢
    rw [HSB.out]
    have HB6 := hide (HB5.out.trans (b6.mono HB5.out.size))
    have HRa6 := hide (HRa5.out.below b6)
    have HRb6 := hide (HRb5.out.below b6)
    have HRc6 := hide hr6
    have hs6 := b6.size
    clear b6 hr6
    go_wp2_with fail
    refine (c_rnames x w6 HX.out).mono ?_
    rintro e w7 ⟨A7, n7, c7, rfl, hr7, b7⟩
    rw [HNO.out] at hr7 ⊢
    rw [HSB.out]
    have HB7 := hide (HB6.out.trans (b7.mono HB6.out.size))
    have HRa7 := hide (HRa6.out.below b7)
    have HRb7 := hide (HRb6.out.below b7)
    have HRc7 := hide (HRc6.out.below b7)
    have HRd7 := hide hr7
    clear b7 hr7
    go_wp2_with fail
    refine (c_rfsame A2 A3 n2 c2 n3 c3 _ _ _ _ w7 HRa7.out HRb7.out).mono ?_
    rintro e w8 ⟨rfl, b8⟩
    rw [decide_eq_true rfl]
    have HB8 := hide (HB7.out.trans (b8.mono HB7.out.size))
    have HRc8 := hide (HRc7.out.below b8)
    have HRd8 := hide (HRd7.out.below b8)
    clear b8
    go_wp2_with fail
    refine (c_rfsame A6 A7 n6 c6 n7 c7 _ _ _ _ w8 HRc8.out HRd8.out).mono ?_
    rintro e w9 ⟨rfl, b9⟩
    rw [decide_eq_true rfl]
    have HB9 := hide (HB8.out.trans (b9.mono HB8.out.size))
    clear b9
    go_wp2_with fail
    refine (c_lname (txt x) w9).mono ?_
    rintro e w10 ⟨rfl, b10⟩
    rw [byt_txt]
    obtain ⟨q, hq⟩ : ∃ q, isNm x = q := ⟨_, rfl⟩
    rw [hq]
    have HQ := hide hq
    have HB10 := hide (HB9.out.trans (b10.mono HB9.out.size))
    clear b10 hq
    go_wp2_with fail
    refine (c_rname x w10 (by have := HX.out; simp only [maxLen]; omega)).mono ?_
    rintro e w11 ⟨rfl, rfl⟩
    rw [HQ.out]
    go_wp2_with fail
    go_ret
    exact ⟨rfl, HB10.out⟩
end Go.Proofs.YtckcadhjpjjmjaaDoor
namespace Go.Proofs.YtckcadhjpjjmjaaDoor
open Go.RowKit
theorem spl_app (c : UInt8) (b : List UInt8) : ∀ a, spl c (a ++ c :: b) = spl c a ++ spl c b
  | [] => by
    show spl c (c :: b) = [] :: spl c b
    conv => lhs; rw [spl, if_pos rfl]
  | y :: a => by
    have ih := spl_app c b a
    by_cases hy : y = c
    · rw [List.cons_append, spl, if_pos hy, ih, spl, if_pos hy]; rfl
    · rw [List.cons_append, spl, if_neg hy, ih, spl, if_neg hy]
      cases h : spl c a with
      | nil => exact absurd h (spl_ne c a)
      | cons p r => rfl
/-- The words of two texts with a blank between. -/
def bothW (o p : Option (List (List UInt8))) : Option (List (List UInt8)) := match o, p with
  | some x, some y => if x ≠ [] ∧ y ≠ [] then some (x ++ y) else none
  | _, _ => none
theorem words_parts {a b : List UInt8} (ha : a.length ≤ 300) (hb : b.length ≤ 200) : wordsB (a ++ 32 :: b) = bothW (wordsB a) (wordsB b) := by
  have h0 : ¬ a ++ 32 :: b = [] := by simp
  have hl : ¬ 512 < (a ++ 32 :: b).length := by rw [List.length_append, List.length_cons]; omega
  have ho : oddT (a ++ 32 :: b) = (oddT a || oddT b) := by
    rw [oddT, List.any_append, List.any_cons]
    rfl
  have hm : ([] ∈ spl 32 (a ++ 32 :: b)) ↔ ([] ∈ spl 32 a ∨ [] ∈ spl 32 b) := by rw [spl_app, List.mem_append]
  rw [wordsB, if_neg h0, ho, spl_app]
  rw [spl_app] at hm
  by_cases ea : a = []
  · have h1 : wordsB a = some [] := by rw [wordsB, if_pos ea]
    rw [h1, if_pos (.inr (.inr (hm.2 (.inl (by rw [ea]; simp [spl])))))]
    cases wordsB b <;> simp [bothW]
  · by_cases eb : b = []
    · have h1 : wordsB b = some [] := by rw [wordsB, if_pos eb]
      rw [h1, if_pos (.inr (.inr (hm.2 (.inr (by rw [eb]; simp [spl])))))]
      cases wordsB a <;> simp [bothW]
    · have la : ¬ 512 < a.length := by omega
      have lb : ¬ 512 < b.length := by omega
      have na := spl_ne 32 a
      have nb := spl_ne 32 b
      have wa : wordsB a = if oddT a = true ∨ [] ∈ spl 32 a then none else some (spl 32 a) := by rw [wordsB, if_neg ea]; simp only [la, false_or]
      have wb : wordsB b = if oddT b = true ∨ [] ∈ spl 32 b then none else some (spl 32 b) := by rw [wordsB, if_neg eb]; simp only [lb, false_or]
      rw [wa, wb]
      simp only [hl, false_or, Bool.or_eq_true, hm]
      by_cases p1 : oddT a = true ∨ [] ∈ spl 32 a
      · rw [if_pos p1, if_pos (by rcases p1 with h | h; exact .inl (.inl h); exact .inr (.inl h))]
        rfl
      · by_cases p2 : oddT b = true ∨ [] ∈ spl 32 b
        · rw [if_neg p1, if_pos p2, if_pos (by rcases p2 with h | h; exact .inl (.inr h); exact .inr (.inr h))]
          rfl
        · rw [if_neg p1, if_neg p2, if_neg (by
            rintro (h | h)
            · rcases h with h | h
              · exact p1 (.inl h)
              · exact p2 (.inl h)
            · rcases h with h | h
              · exact p1 (.inr h)
              · exact p2 (.inr h))]
          simp [bothW, na, nb]
theorem wpList_want {P : Program} {ops : Array Oper} {rest : List Oper} {op : Oper} {a : Act} {w : World} {Q : Exit → Act → World → Prop} (hw : Region.wanted op (yielded ops a.tmps) = true) (h : ∀ K : Act → World → Prop, (∀ a w, wpList P ops Q rest a w → K a w) → op.wp P a w K Q) : wpList P ops Q (op :: rest) a w :=
  wpList_step fun K hK => by rw [if_pos hw]; exact h K hK
/-- append, where the walk stands at one that a guard lets in. -/
theorem wpList_appG {α : Type} {d : Kd α} {ok : Nat → Prop} {base : Nat} {w : World} {E : TypeId} {v : Value} {xs ys : List α} {A : Option Addr} {m : Nat} {P : Program} {ops : Array Oper} {rest : List Oper} {op : Oper} {a : Act} {Q : Exit → Act → World → Prop} (hgd : Region.wanted op (yielded ops a.tmps) = true) (s x : Operand) (T : TypeId)
    (ho : op.op = .call { callee := .builtin .append, args := #[s, x], argTypes := #[T, T] }) {z : Value} {bytes : Nat} (hT : P.underlying T = some (.slice E)) (hinfo : (P.info? E).map (fun i => (i.zero, i.size, i.bytes)) = some (some z, d.sz, bytes))
    (hz : z.cells.size = d.sz) (hsz : 0 < d.sz) (cy : Nat) (hs : a.eval s = v) (hx : a.eval x = .slice A m cy) (h : d.App ok base w E v xs) (hsrc : d.Src (fun k => ok k ∧ some k ≠ v.ownBlock) w A m ys) (hbase : base ≤ w.heap.size)
    (h63 : xs.length + m ≤ maxLen) (hbytes : (xs.length + m) * bytes ≤ 140737488355328)
    (k : ∀ v' w', d.App ok base w' E v' (xs ++ ys) → (0 < m ∨ d.Own ok base w E v xs → d.Own ok base w' E v' (xs ++ ys)) → Below base w w' → (∀ k, k < w.heap.size → some k ≠ v.ownBlock → w'.heap[k]? = w.heap[k]?) →
      (v'.ownBlock = v.ownBlock ∨ ∃ k, v'.ownBlock = some k ∧ w.heap.size ≤ k) → wpList P ops Q rest (a.put op.dst v') w') : wpList P ops Q (op :: rest) a w :=
  wpList_want hgd fun _ hK => wp_app s x T ho hT hinfo hz hsz cy hs hx h hsrc hbase h63 hbytes fun v' w' h1 h2 h3 h4 h5 => hK _ _ (k v' w' h1 h2 h3 h4 h5)
set_option maxRecDepth 100000 in
set_option maxHeartbeats 6400000 in
theorem c_lexparts (a b : List UInt8) (N : Nat) (m : Int) (w : World) (hsa : a.length ≤ 9223372036854775807) (hsb : b.length ≤ 9223372036854775807) (hN64 : N < 18446744073709551616) (hm : w.cell? ⟨5, 0, none⟩ = some (.int .i64 m)) (hN : NumAt w) :
    Calls Tryd.prog 8 #[.string (txt a), .string (txt b), .int .u64 (N : Int)] w fun e w' => e = .returned (.bool true) ∧ Below w.heap.size w w' := by
  have h5 : 5 < w.heap.size := World.block_lt_of_cell? _ _ hm
  obtain ⟨na, hna⟩ : ∃ n, a.length = n := ⟨_, rfl⟩
  obtain ⟨nb, hnb⟩ : ∃ n, b.length = n := ⟨_, rfl⟩
  have hza : (txt a).size = na := by rw [txt_size, hna]
  have hzb : (txt b).size = nb := by rw [txt_size, hnb]
  rw [hna] at hsa
  rw [hnb] at hsb
  have HLA := hide hna
  have HLB := hide hnb
  have HM := hide hm
  have HN := hide hN
  clear hm hN hna hnb
  by_cases h300 : 300 < na
  · have h300' : (300 : Int) < (na : Int) := by omega
    go_enter Tryd.func8, Tryd.ntmps8
    go_wp2_with fail
    refine (c_lxalive m w HM.out).mono ?_
    rintro e w1 ⟨rfl, b1⟩
    go_wp2_with fail
    go_ret
    exact ⟨rfl, b1⟩
  have h300' : ¬ (300 : Int) < (na : Int) := by omega
  by_cases h200 : 200 < nb
  · have h200' : (200 : Int) < (nb : Int) := by omega
    go_enter Tryd.func8, Tryd.ntmps8
    go_wp2_with fail
    refine (c_lxalive m w HM.out).mono ?_
    rintro e w1 ⟨rfl, b1⟩
    go_wp2_with fail
    go_ret
    exact ⟨rfl, b1⟩
  have h200' : ¬ (200 : Int) < (nb : Int) := by omega
  obtain ⟨wa, hwa⟩ : ∃ o, wordsB a = o := ⟨_, rfl⟩
  obtain ⟨wb, hwb⟩ : ∃ o, wordsB b = o := ⟨_, rfl⟩
  obtain ⟨wc, hwc⟩ : ∃ o, wordsB (a ++ 32 :: b) = o := ⟨_, rfl⟩
  have HWC0 : Hid (wc = bothW wa wb) := hide (by rw [← hwc, words_parts (by have := HLA.out; omega) (by have := HLB.out; omega), hwa, hwb])
  have HWA := hide hwa
  have HWB := hide hwb
  have HWC := hide hwc
  have HLC : Hid ((a ++ 32 :: b).length ≤ 1000000) := hide (by rw [List.length_append, List.length_cons, HLA.out, HLB.out]; omega)
  clear hwa hwb hwc
  go_enter Tryd.func8, Tryd.ntmps8
  go_wp2_with fail
  refine (c_lxalive m w HM.out).mono ?_
  rintro e w1 ⟨rfl, b1⟩
  have HB1 := hide b1
  have HM1 := hide ((b1.cell (p := ⟨5, 0, none⟩) h5).trans HM.out)
  have HN1 := hide (HN.out.below b1)
  have hs1 := b1.size
  clear b1
  go_wp2_with fail
  refine (c_words a m w1 (by have := HLA.out; omega) HM1.out).mono ?_
  rintro e w2 ⟨A2, n2, c2, rfl, hr2, b2⟩
  rw [HWA.out] at hr2 ⊢
  have HB2 := hide (HB1.out.trans (b2.mono HB1.out.size))
  have HM2 := hide ((b2.cell (p := ⟨5, 0, none⟩) (show 5 < w1.heap.size from by omega)).trans HM1.out)
  have HN2 := hide (HN1.out.below b2)
  have HRa2 := hide hr2
  have hs2 := b2.size
  clear b2 hr2
  go_wp2_with fail
  refine (c_words b m w2 (by have := HLB.out; omega) HM2.out).mono ?_
  rintro e w3 ⟨A3, n3, c3, rfl, hr3, b3⟩
  rw [HWB.out] at hr3 ⊢
  have HB3 := hide (HB2.out.trans (b3.mono HB2.out.size))
  have HM3 := hide ((b3.cell (p := ⟨5, 0, none⟩) (show 5 < w2.heap.size from by omega)).trans HM2.out)
  have HN3 := hide (HN2.out.below b3)
  have HRa3 := hide (HRa2.out.below b3)
  have HRb3 := hide hr3
  have hs3 := b3.size
  have hca : ¬ 9223372036854775807 < na + 1 := by omega
  have hcb : ¬ 9223372036854775807 < na + 1 + nb := by omega
  have hq1 : (txt a ++ ({ data := #[32] } : ByteArray)) = txt (a ++ [32]) := txt_app2 a [32]
  have hzc : (txt (a ++ [32])).size = na + 1 := by rw [txt_size, List.length_append, List.length_singleton, HLA.out]
  clear b3 hr3
  go_wp2_with fail
  rw [show txt (a ++ [32]) ++ txt b = txt (a ++ 32 :: b) from by rw [txt_app2, List.append_assoc]; rfl]
  refine (c_words (a ++ 32 :: b) m w3 HLC.out HM3.out).mono ?_
  rintro e w4 ⟨A4, n4, c4, rfl, hr4, b4⟩
  rw [HWC.out] at hr4 ⊢
  have HB4 := hide (HB3.out.trans (b4.mono HB3.out.size))
  have HN4 := hide (HN3.out.below b4)
  have HRa4 := hide (HRa3.out.below b4)
  have HRb4 := hide (HRb3.out.below b4)
  have HRc4 := hide hr4
  have hn2 := HRa2.out.1
  have hn3 := HRb3.out.1
  have hn63 : n2 ≤ 9223372036854775807 := Nat.le_trans HRa2.out.2.1 HRa2.out.2.2.1
  have hn64 : n3 ≤ 9223372036854775807 := Nat.le_trans HRb3.out.2.1 HRb3.out.2.2.1
  have hs4 := b4.size
  rw [List.length_map] at hn2 hn3
  clear b4 hr4 hq1 hzc
  cases wa with
  | none =>
    have HWN : Hid (wc = none) := hide HWC0.out
    rw [HWN.out]
    clear hn2 hn3
    go_wp2_with fail
    refine (c_digits N w4 hN64).mono ?_
    rintro e wd ⟨rfl, bd⟩
    obtain ⟨D, hD⟩ : ∃ D, Lib.decDigits N = D := ⟨_, rfl⟩
    have HD : Hid (numV (numB D) = .tuple #[.int .u64 (N : Int), .bool true]) := hide (by rw [← hD, num_dec hN64]; rfl)
    have HDL : Hid (D.length ≤ 1000000) := hide (by rw [← hD]; have := dec_len hN64; omega)
    rw [hD]
    have HBd := hide (HB4.out.trans (bd.mono HB4.out.size))
    have HNd := hide (HN4.out.below bd)
    clear bd hD
    go_wp2_with fail
    refine (c_lnumber D wd HDL.out HNd.out).mono ?_
    rintro e wn ⟨rfl, bn⟩
    rw [HD.out]
    have HBn := hide (HBd.out.trans (bn.mono HBd.out.size))
    clear bn
    go_wp2_with fail
    go_ret
    exact ⟨by simp, HBn.out⟩
  | some x =>
    cases wb with
    | none =>
      have HWN : Hid (wc = none) := hide HWC0.out
      rw [HWN.out]
      clear hn2 hn3
      go_wp2_with fail
      refine (c_digits N w4 hN64).mono ?_
      rintro e wd ⟨rfl, bd⟩
      obtain ⟨D, hD⟩ : ∃ D, Lib.decDigits N = D := ⟨_, rfl⟩
      have HD : Hid (numV (numB D) = .tuple #[.int .u64 (N : Int), .bool true]) := hide (by rw [← hD, num_dec hN64]; rfl)
      have HDL : Hid (D.length ≤ 1000000) := hide (by rw [← hD]; have := dec_len hN64; omega)
      rw [hD]
      have HBd := hide (HB4.out.trans (bd.mono HB4.out.size))
      have HNd := hide (HN4.out.below bd)
      clear bd hD
      go_wp2_with fail
      refine (c_lnumber D wd HDL.out HNd.out).mono ?_
      rintro e wn ⟨rfl, bn⟩
      rw [HD.out]
      have HBn := hide (HBd.out.trans (bn.mono HBd.out.size))
      clear bn
      go_wp2_with fail
      go_ret
      exact ⟨by simp, HBn.out⟩
    | some y =>
      have hn2' : x.length = n2 := hn2
      have hn3' : y.length = n3 := hn3
      have HN2 := hide hn2'
      have HN3 := hide hn3'
      clear hn2 hn3 hn2' hn3'
      by_cases hx0 : n2 = 0
      · have HWN : Hid (wc = none) := hide (HWC0.out.trans (if_neg fun h => h.1 (List.length_eq_zero_iff.1 (HN2.out.trans hx0))))
        subst hx0
        rw [HWN.out]
        go_wp2_with fail
        refine (c_digits N w4 hN64).mono ?_
        rintro e wd ⟨rfl, bd⟩
        obtain ⟨D, hD⟩ : ∃ D, Lib.decDigits N = D := ⟨_, rfl⟩
        have HD : Hid (numV (numB D) = .tuple #[.int .u64 (N : Int), .bool true]) := hide (by rw [← hD, num_dec hN64]; rfl)
        have HDL : Hid (D.length ≤ 1000000) := hide (by rw [← hD]; have := dec_len hN64; omega)
        rw [hD]
        have HBd := hide (HB4.out.trans (bd.mono HB4.out.size))
        have HNd := hide (HN4.out.below bd)
        clear bd hD
        go_wp2_with fail
        refine (c_lnumber D wd HDL.out HNd.out).mono ?_
        rintro e wn ⟨rfl, bn⟩
        rw [HD.out]
        have HBn := hide (HBd.out.trans (bn.mono HBd.out.size))
        clear bn
        go_wp2_with fail
        go_ret
        exact ⟨by simp, HBn.out⟩
      · have hx1 : (0 : Int) < (n2 : Int) := by omega
        by_cases hy0 : n3 = 0
        · have HWN : Hid (wc = none) := hide (HWC0.out.trans (if_neg fun h => h.2 (List.length_eq_zero_iff.1 (HN3.out.trans hy0))))
          subst hy0
          rw [HWN.out]
          go_wp2_with fail
          refine (c_digits N w4 hN64).mono ?_
          rintro e wd ⟨rfl, bd⟩
          obtain ⟨D, hD⟩ : ∃ D, Lib.decDigits N = D := ⟨_, rfl⟩
          have HD : Hid (numV (numB D) = .tuple #[.int .u64 (N : Int), .bool true]) := hide (by rw [← hD, num_dec hN64]; rfl)
          have HDL : Hid (D.length ≤ 1000000) := hide (by rw [← hD]; have := dec_len hN64; omega)
          rw [hD]
          have HBd := hide (HB4.out.trans (bd.mono HB4.out.size))
          have HNd := hide (HN4.out.below bd)
          clear bd hD
          go_wp2_with fail
          refine (c_lnumber D wd HDL.out HNd.out).mono ?_
          rintro e wn ⟨rfl, bn⟩
          rw [HD.out]
          have HBn := hide (HBd.out.trans (bn.mono HBd.out.size))
          clear bn
          go_wp2_with fail
          go_ret
          exact ⟨by simp, HBn.out⟩
        · have hy1 : (0 : Int) < (n3 : Int) := by omega
          have HWN : Hid (wc = some (x ++ y)) := hide (HWC0.out.trans (if_pos ⟨fun e => hx0 (by rw [← HN2.out, e]; rfl), fun e => hy0 (by rw [← HN3.out, e]; rfl)⟩))
          rw [HWN.out] at HRc4 ⊢
          have hb2 : n2 ≤ 1000 := by
            have h1 := spl_len 32 a
            have h2 := List.count_le_length (a := (32 : UInt8)) (l := a)
            have h3 := HWA.out
            have h4 := HLA.out
            have h5 := HN2.out
            unfold wordsB at h3
            split at h3
            · have h6 : x = [] := (Option.some.inj h3).symm
              rw [h6] at h5
              exact absurd h5.symm hx0
            · split at h3
              · cases h3
              · have h6 : spl 32 a = x := Option.some.inj h3
                rw [h6] at h1
                omega
          have hb3 : n3 ≤ 1000 := by
            have h1 := spl_len 32 b
            have h2 := List.count_le_length (a := (32 : UInt8)) (l := b)
            have h3 := HWB.out
            have h4 := HLB.out
            have h5 := HN3.out
            unfold wordsB at h3
            split at h3
            · have h6 : y = [] := (Option.some.inj h3).symm
              rw [h6] at h5
              exact absurd h5.symm hy0
            · split at h3
              · cases h3
              · have h6 : spl 32 b = y := Option.some.inj h3
                rw [h6] at h1
                omega
          have HO : Hid (kStr.Own (fun _ => True) w4.heap.size (w4.alloc (.cells #[] 9)) 9 (.slice (some ⟨w4.heap.size, 0, none⟩) 0 0) []) := hide (Kd.Own.lit (.nil _ _ _) #[] rfl 0 rfl (Nat.zero_le _) _ rfl (Nat.le_refl _))
          have HSR : Hid (kStr.Src (fun j => True ∧ some j ≠ (Value.slice (some ⟨w4.heap.size, 0, none⟩) 0 0).ownBlock) (w4.alloc (.cells #[] 9)) A2 n2 (x.map txt)) := hide (((HRa4.out.bound.more (ok' := fun j => True ∧ some j ≠ (Value.slice (some ⟨w4.heap.size, 0, none⟩) 0 0).ownBlock) (fun j hj => ⟨trivial, fun e => by have h8 : j = w4.heap.size := Option.some.inj e; have := hj.2; omega⟩)).alloc _).src)
          go_wp2_with (at_builtin; go_loud (refine wpList_appG (d := kStr) (ok := fun _ => True) (base := w4.heap.size) (by first | rfl | simp [Region.wanted, yielded]) _ _ _ rfl Tryd.underlying22 str_inf rfl (by decide) c2 rfl rfl (.inl HO.out) HSR.out ?_ ?_ ?_ ?_))
          · simp only [World.size_alloc]; omega
          · simp only [List.length_nil, maxLen]; omega
          · simp only [List.length_nil]; omega
          intro v5 w5 _ h5' b5 _ o5
          have h5'' : kStr.Own (fun _ => True) w4.heap.size w5 9 v5 (x.map txt) := h5'
          have b45 : Below w4.heap.size w4 w5 := ((Below.refl _ _).alloc (Nat.le_refl _) _).trans b5
          have HO5 := hide h5''
          have hs5 := b45.size
          have HSR5 : Hid (kStr.Src (fun j => True ∧ some j ≠ v5.ownBlock) w5 A3 n3 (y.map txt)) := hide (((HRb4.out.bound.more (ok' := fun j => True ∧ some j ≠ v5.ownBlock) (fun j hj => ⟨trivial, fun e => by
            have hj2 : j < w4.heap.size := hj.2
            rcases o5 with h8 | ⟨k, h8, h9⟩
            · rw [h8] at e; have h10 : j = w4.heap.size := Option.some.inj e; omega
            · rw [h8] at e; have h10 : j = k := Option.some.inj e; omega⟩)).below b45).src)
          have HB45 := hide b45
          have HB5 := hide (HB4.out.trans (b45.mono HB4.out.size))
          have HN5 := hide (HN4.out.below b45)
          clear h5' h5'' b5 b45 o5 HO HSR
          go_wp2_with (at_builtin; go_loud (refine wpList_appG (d := kStr) (ok := fun _ => True) (base := w4.heap.size) (by first | rfl | simp [Region.wanted, yielded]) _ _ _ rfl Tryd.underlying22 str_inf rfl (by decide) c3 rfl rfl (.inl HO5.out) HSR5.out ?_ ?_ ?_ ?_))
          · exact hs5
          · rw [List.length_map, HN2.out]; simp only [maxLen]; omega
          · rw [List.length_map, HN2.out]; omega
          intro v6 w6 _ h6' b6 _ _
          have h6'' : kStr.Own (fun _ => True) w4.heap.size w6 9 v6 (x.map txt ++ y.map txt) := h6'
          obtain ⟨A6, c6, rfl, hr6⟩ := h6''.row
          have h7 : Hid ((x ++ y).map txt = x.map txt ++ y.map txt) := hide List.map_append
          obtain ⟨L6, hL6⟩ : ∃ L, (x.map txt ++ y.map txt).length = L := ⟨_, rfl⟩
          rw [hL6] at hr6 ⊢
          have HR6 := hide hr6
          have b46 := HB45.out.trans b6
          have HRc6 := hide (HRc4.out.below b46)
          have HB6 := hide (HB4.out.trans (b46.mono HB4.out.size))
          have HN6 := hide (HN4.out.below b46)
          clear b6 b46 h6' h6'' hr6
          go_wp2_with fail
          refine (c_rfsame A4 A6 n4 c4 L6 c6 _ _ _ _ w6 HRc6.out HR6.out).mono ?_
          rintro e w7 ⟨rfl, b7⟩
          rw [show decide (((some (x ++ y)).getD []).map txt = x.map txt ++ y.map txt) = true from decide_eq_true h7.out]
          have HB7 := hide (HB6.out.trans (b7.mono HB6.out.size))
          have HN7 := hide (HN6.out.below b7)
          clear b7
          go_wp2_with fail
          refine (c_digits N w7 hN64).mono ?_
          rintro e wd ⟨rfl, bd⟩
          obtain ⟨D, hD⟩ : ∃ D, Lib.decDigits N = D := ⟨_, rfl⟩
          have HD : Hid (numV (numB D) = .tuple #[.int .u64 (N : Int), .bool true]) := hide (by rw [← hD, num_dec hN64]; rfl)
          have HDL : Hid (D.length ≤ 1000000) := hide (by rw [← hD]; have := dec_len hN64; omega)
          rw [hD]
          have HBd := hide (HB7.out.trans (bd.mono HB7.out.size))
          have HNd := hide (HN7.out.below bd)
          clear bd hD
          go_wp2_with fail
          refine (c_lnumber D wd HDL.out HNd.out).mono ?_
          rintro e wn ⟨rfl, bn⟩
          rw [HD.out]
          have HBn := hide (HBd.out.trans (bn.mono HBd.out.size))
          clear bn
          go_wp2_with fail
          go_ret
          exact ⟨by simp, HBn.out⟩
end Go.Proofs.YtckcadhjpjjmjaaDoor
namespace Go.Proofs.YtckcadhjpjjmjaaDoor
open Go.ChangeShapes Go.WideShapes Go.ChangeAt Go.RowKit
theorem star_err : "*" ++ "errors.errorString" = "*errors.errorString" := by decide
theorem row_err (u : TypeId) (h : Tryd.prog.typeName? 3 u = some "*errors.errorString") : u = 140 :=
  typeName_ptr_named (nm := "errors.errorString") (by rw [star_err]; kernel_rfl) (by kernel_rfl) (by decide) u (by rw [star_err]; exact h)
theorem pow_tab : (Rows.laid_internal_strconv_uint64pow10 : DataW Unit) = Lib.tabData .u64 Lib.pow10Tab := by kernel_rfl
theorem gRange : Tryd.prog.globalNamed "strconv.ErrRange" = some 3 := by kernel_rfl
theorem gSyntax : Tryd.prog.globalNamed "strconv.ErrSyntax" = some 2 := by kernel_rfl
abbrev laidN : List (String × DataW Unit) := [("math/bits.deBruijn32tab", Rows.laid_math_bits_deBruijn32tab), ("math/bits.deBruijn64tab", Rows.laid_math_bits_deBruijn64tab), ("internal/strconv.uint64pow10", Rows.laid_internal_strconv_uint64pow10), ("unicode/utf8.acceptRanges", Rows.laid_unicode_utf8_acceptRanges), ("strconv.ErrRange", Rows.laid_strconv_ErrRange), ("strconv.ErrSyntax", Rows.laid_strconv_ErrSyntax), ("unicode/utf8.first", Rows.laid_unicode_utf8_first)]
theorem numAt_of {W : World} (hL : laidMet Tryd.prog laidN W) : NumAt W := by
  have h1 := hL.tail.tail
  rw [pow_tab] at h1
  have h2 := hL.tail.tail.tail.tail
  have h3 := h2.tail
  obtain ⟨a2, s2, hv2, -, -, -⟩ := laid_sentinel h2 gRange (by kernel_rfl) Tryd.underlying67 row_err Tryd.underlying140 Tryd.underlying142 rfl rfl Tryd.underlying9 (by kernel_rfl) (by kernel_rfl)
  obtain ⟨a3, s3, hv3, -, -, -⟩ := laid_sentinel h3 gSyntax (by kernel_rfl) Tryd.underlying67 row_err Tryd.underlying140 Tryd.underlying142 rfl rfl Tryd.underlying9 (by kernel_rfl) (by kernel_rfl)
  refine ⟨Lib.tabIs_of_head (g := 4) (by kernel_rfl) (by kernel_rfl) Tryd.underlying131 Tryd.underlying30 (by kernel_rfl) (by kernel_rfl) h1, ?_, ?_⟩
  · exact ⟨_, by simpa using World.var?_cell gSyntax hv3 0, .inr ⟨_, _, rfl⟩⟩
  · exact ⟨_, by simpa using World.var?_cell gRange hv2 0, .inr ⟨_, _, rfl⟩⟩
end Go.Proofs.YtckcadhjpjjmjaaDoor
namespace Go.Proofs.YtckcadhjpjjmjaaDoor
open Go.ChangeShapes Go.WideShapes Go.ChangeAt Go.RowKit

def inReach {H : Type} (d : DataW H) (t : TypeId) : Prop := (d.weights Tryd.prog t).all (· ≤ reachBytes) = true
theorem each_part {H : Type} : ∀ {ts : List TypeId} {ds : List (DataW H)} {j : Nat} {t : TypeId} {d : DataW H}, (DataW.weightsEach Tryd.prog ts ds).all (· ≤ reachBytes) = true → ts[j]? = some t → ds[j]? = some d → inReach d t := by
  intro ts ds j t d h ht hd
  unfold inReach
  rw [List.all_eq_true] at h ⊢
  intro n hn
  exact h n (DataW.weights_mem_each ht hd n hn)
theorem all_mem {H : Type} : ∀ {e : TypeId} {ds : List (DataW H)} {d : DataW H}, (DataW.weightsAll Tryd.prog e ds).all (· ≤ reachBytes) = true → d ∈ ds → inReach d e
  | e, [], d, _, hd => by simp at hd
  | e, x :: r, d, h, hd => by
    simp only [DataW.weightsAll, List.all_append, Bool.and_eq_true] at h
    simp only [List.mem_cons] at hd
    rcases hd with rfl | hd
    · exact h.1
    · exact all_mem h.2 hd
theorem reach_str {H : Type} {s : ByteArray} {t : TypeId} (h : inReach (H := H) (.lit (.string s.data.toList)) t) : s.size ≤ 140737488355328 := by
  unfold inReach at h
  simp only [DataW.weights, List.all_cons, List.all_nil, Bool.and_true, decide_eq_true_eq] at h
  have e : s.data.toList.length = s.size := by rw [Array.length_toList]; rfl
  have := reachBytes_lt
  omega
theorem reach_struct {H : Type} {t : TypeId} {fs : Array Field} {parts : List (DataW H)} (hu : Tryd.prog.underlying t = some (.struct fs)) (h : inReach (.agg parts) t) : (DataW.weightsEach Tryd.prog (fs.toList.map (·.type)) parts).all (· ≤ reachBytes) = true := by
  unfold inReach at h
  simpa [DataW.weights, hu] using h
theorem reach_slice {H : Type} {t e : TypeId} {el sp : List (DataW H)} (hu : Tryd.prog.underlying t = some (.slice e)) (h : inReach (.slice el sp) t) : (DataW.weightsAll Tryd.prog e el).all (· ≤ reachBytes) = true := by
  unfold inReach at h
  simp only [DataW.weights, hu, List.all_cons, List.all_append, Bool.and_eq_true] at h
  exact h.2.1
variable {H : Type} {enc : TypeId × Value → H} {w : World} {spare : Nat → Bool} {held : Bool}
/-- As 'trod_row', of elements of which more is known. -/
theorem trod_row_s {α : Type} {d : Kd α} {Q : α → Prop} {t e : TypeId} {fuel : Nat} {cs : List Value} {x : DataW H × List MemPlace} (hT : Tryd.prog.underlying t = some (.slice e)) (hsz : Tryd.prog.cellsOf e = d.sz) (h0 : 0 < d.sz)
    (hel : ∀ n cs x, DataW.trod enc Tryd.prog w 0 spare held n e cs = some x → inReach x.1 e → ∃ y, d.K (· < w.heap.size) w y cs ∧ Q y) (h : DataW.trod enc Tryd.prog w 0 spare held fuel t cs = some x) (hw : inReach x.1 t) :
    ∃ A n c xs, cs = [.slice A n c] ∧ d.Row (· < w.heap.size) w A n c xs ∧ ∀ y ∈ xs, Q y := by
  rcases Go.Deep.open_slice hT h with ⟨rfl, _⟩ | ⟨a, len, cap, m, n, D, Pl, rfl, _, hl, hm, hmm, rfl, hi⟩
  · exact ⟨_, _, _, [], rfl, .nil _ _ _ _ _ (Nat.zero_le _), by simp⟩
  · have hlm : len ≤ m := by rw [hmm]; split <;> omega
    have hE := reach_slice hT hw
    rcases Nat.eq_zero_or_pos len with hz | hpos
    · subst hz
      exact ⟨_, _, _, [], rfl, .nil _ _ _ _ _ hm, by simp⟩
    have hc0 : ∀ i, i < len → ∃ y, ∃ cs', Tryd.prog.cellsOf e = cs'.length ∧ w.cells? 0 (a.add (i * Tryd.prog.cellsOf e)) (Tryd.prog.cellsOf e) = some cs' ∧ d.K (· < w.heap.size) w y cs' ∧ Q y := fun i hil => by
      obtain ⟨cs', hcs, htr⟩ := hi i (by omega)
      obtain ⟨y, hy, hq⟩ := hel _ _ _ htr (all_mem hE (List.mem_map.2 ⟨i, by simpa using hil, rfl⟩))
      obtain ⟨_, hcl, _⟩ := World.cells?_some hcs
      exact ⟨y, cs', hcl.symm, hcs, hy, hq⟩
    have hsp : a.spot = none ∧ a.block < w.heap.size := by
      obtain ⟨y, cs', hcl0, hcs, hy, _⟩ := hc0 0 hpos
      obtain ⟨_, hcl, hat⟩ := World.cells?_some hcs
      have hp : 0 < cs'.length := by rw [hcl, hsz]; exact h0
      have hg : w.cell? a = some (cs'[0]'(by omega)) := by
        have := (hat 0 (by omega)).trans (List.getElem?_eq_getElem (by omega))
        simpa [Addr.add] using this
      exact ⟨World.cell?_spot hg, World.block_lt_of_cell? w _ hg⟩
    obtain ⟨b, o, sp⟩ := a
    obtain ⟨rfl, hlt⟩ := hsp
    have hc : ∀ i, i < len → ∃ y, ∃ cs, (d.K (· < w.heap.size) w y cs ∧ w.rangeAt b (o + i * d.sz) cs) ∧ Q y := fun i hil => by
      obtain ⟨y, cs', _, hcs, hy, hq⟩ := hc0 i hil
      obtain ⟨_, hcl, hat⟩ := World.cells?_some hcs
      rw [hsz] at hcl hat
      refine ⟨y, cs', ⟨hy, fun j v hv => ?_⟩, hq⟩
      have := hat j (by rw [← hcl]; exact (List.getElem?_eq_some_iff.1 hv).1)
      rw [hv, Addr.add_none, Addr.add_none] at this
      exact this
    obtain ⟨xs, hxl, hx⟩ := list_of len hc
    exact ⟨_, _, _, xs, rfl, ⟨hxl, hl, hm, fun hn => ⟨b, o, rfl, hlt, hlt, fun i x hix => let ⟨cs, hq, _⟩ := hx i x hix; ⟨cs, hq⟩⟩⟩, fun y hy => by
      obtain ⟨i, hi', rfl⟩ := List.mem_iff_getElem.1 hy
      obtain ⟨cs, _, hq⟩ := hx i _ (List.getElem?_eq_getElem hi')
      exact hq⟩
theorem str_open_s (n : Nat) (cs : List Value) (x : DataW H × List MemPlace) (h : DataW.trod enc Tryd.prog w 0 spare held n 9 cs = some x) (hw : inReach x.1 9) :
    ∃ y : ByteArray, kStr.K (· < w.heap.size) w y cs ∧ y.size ≤ 140737488355328 := by
  obtain ⟨s, rfl, e, hm⟩ := DataW.trod_string Tryd.underlying9 h
  rw [e] at hw
  exact ⟨s, ⟨rfl, hm⟩, reach_str hw⟩
end Go.Proofs.YtckcadhjpjjmjaaDoor
namespace Go.Proofs.YtckcadhjpjjmjaaDoor
open Go.ChangeShapes Go.WideShapes Go.ChangeAt Go.RowKit

abbrev lexPartsLaid : List (String × DataW Unit) := [("math/bits.deBruijn32tab", Rows.laid_math_bits_deBruijn32tab), ("math/bits.deBruijn64tab", Rows.laid_math_bits_deBruijn64tab), ("internal/strconv.uint64pow10", Rows.laid_internal_strconv_uint64pow10), ("unicode/utf8.acceptRanges", Rows.laid_unicode_utf8_acceptRanges), ("strconv.ErrRange", Rows.laid_strconv_ErrRange), ("strconv.ErrSyntax", Rows.laid_strconv_ErrSyntax), ("unicode/utf8.first", Rows.laid_unicode_utf8_first)]
set_option maxRecDepth 100000 in
set_option maxHeartbeats 2000000 in
theorem lexParts_lifted (os : Os) (started : os.Started) (H : Type) (enc : TypeId × Value → H) :
    ReturnsInHanded {} Tryd.checked os 8 .any (fun w args => (Rows.lexPartsSpec.pre enc Tryd.prog Tryd.f8 [] false w args ∧ laidMetH Tryd.prog lexPartsLaid w) ∧ sizedMet enc Tryd.prog Tryd.f8 (OpenSpec.ofChange Rows.lexPartsSpec) false w args)
      (Rows.lexPartsSpec.post enc Tryd.prog Tryd.f8 false true false false) := by
  refine handed_both (C := Tryd.checked) (X := fun w _ => laidMetH Tryd.prog lexPartsLaid w) (fun _ _ _ hh h => h.of_heap hh) ownKnobD started (by kernel_rfl) Tryd.func8
    (ChangeSpec.witness_shaped (enc := enc) (C := Tryd.checked) (os := os) (X := fun w _ => laidMetH Tryd.prog lexPartsLaid w) false (World.laidAll Tryd.prog os lexPartsLaid) #[.string ByteArray.empty, .string ByteArray.empty, .int .u64 0] 8 (World.laidAll_os _ _ _)
      (World.shaped_of_ZipB (by kernel_rfl) (by kernel_rfl)) (by kernel_rfl) (by kernel_rfl) (by kernel_rfl)
      (by rw [MakeChecks.laidMetH_plain _ _ _ (by kernel_rfl)]; exact laidMet_laidAll _ (by kernel_rfl) (by kernel_rfl))) ?_
  intro W base args ds gs before hval0 hW hwt hL hsh
  have hval : ∀ (j : Nat) t v, Tryd.f8.params[j]? = some t → args[j]? = some v → Value.okWide Tryd.prog W .any base t v := hval0
  have hW' := hW
  obtain ⟨p, q, hA0, hV, rfl, hfz, hnd⟩ := hW
  have hA : DataW.TrodAll enc Tryd.prog W 0 (fun _ => true) true Tryd.f8.params.toList args.toList ds p := hA0
  have hw2 : (DataW.weightsEach Tryd.prog (Tryd.f8.params.toList ++ Rows.lexPartsSpec.plain.varTypes Tryd.prog) (ds ++ gs)).all (· ≤ reachBytes) = true := hwt
  rw [Tryd.params8] at hA hval hw2
  obtain ⟨v0, v1, v2, d0, d1, d2, p0, p1, p2, rfl, rfl, rfl, ⟨n0, h0⟩, ⟨n1, h1⟩, ⟨n2, h2⟩⟩ := trodAll_three hA
  obtain ⟨rfl, rfl⟩ := trodVars_none hV
  have g0 := each_part (j := 0) (t := 9) (d := d0) hw2 rfl rfl
  have g1 := each_part (j := 1) (t := 9) (d := d1) hw2 rfl rfl
  have g2 := each_part (j := 2) (t := 30) (d := d2) hw2 rfl rfl
  obtain ⟨s0, rfl⟩ := okWide_string Tryd.underlying9 (hval 0 9 v0 rfl rfl)
  obtain ⟨use0, ⟨e0, -⟩, hu0⟩ := str_open_s _ _ _ h0 g0
  obtain rfl : s0 = use0 := by simpa [Value.cells] using e0
  obtain ⟨a, rfl⟩ : ∃ l, s0 = txt l := ⟨byt s0, (txt_byt s0).symm⟩
  obtain ⟨s1, rfl⟩ := okWide_string Tryd.underlying9 (hval 1 9 v1 rfl rfl)
  obtain ⟨use1, ⟨e1, -⟩, hu1⟩ := str_open_s _ _ _ h1 g1
  obtain rfl : s1 = use1 := by simpa [Value.cells] using e1
  obtain ⟨b, rfl⟩ : ∃ l, s1 = txt l := ⟨byt s1, (txt_byt s1).symm⟩
  obtain ⟨z2, rfl, rfl, rfl, wz2⟩ := open_int Tryd.underlying30 (hval 2 30 v2 rfl rfl) ⟨n2, h2⟩
  simp [Lit.wf, IntKind.min, IntKind.max, IntKind.signed, IntKind.bits] at wz2
  obtain ⟨N, rfl⟩ : ∃ n : Nat, z2 = n := ⟨z2.toNat, by omega⟩
  obtain ⟨m, hm⟩ := maxlen_of hsh
  rw [MakeChecks.laidMetH_plain _ _ _ (by kernel_rfl)] at hL
  have hN := numAt_of hL
  clear hA0 hval0 h0 h1
  refine (c_lexparts a b N m W (by have := hu0; rw [txt_size] at this; omega) (by have := hu1; rw [txt_size] at this; omega) (by omega) hm hN).mono fun e W' ⟨he, hg⟩ => ?_
  subst he
  exact ⟨_, rfl, post_true laidOutD (by kernel_rfl) (by kernel_rfl) Tryd.underlying4 rfl hW' rfl hg⟩

theorem lexParts_row : Rows.LexPartsSaid :=
  OpenClaim.holds_of_wide 8 Tryd.f8 rfl rfl rfl rfl rfl rfl rfl ⟨rfl, rfl, rfl, rfl, rfl⟩ rfl rfl rfl rfl rfl (by kernel_rfl) Tryd.func8 (by kernel_rfl)
    (of_decide_eq_true (by kernel_rfl)) (by unfold Func.isWrapper; first | (rw [if_pos (by decide +kernel)]; kernel_rfl) | (rw [if_neg (by decide +kernel)]; exact ⟨rfl, rfl⟩))
    (fun os started H enc _ => lexParts_lifted os started H enc)
theorem lexParts_proved : Rows.LexPartsCardSaid :=
  Claim7.holds_tied_plain_at .later [] [.data, .data, .data, .data, .sentinel, .sentinel, .pinned] true (true, "2ec3429c51431b7b409ee26f38c36534d9ca1e5e5c841bce7aa769e90a65a99b") true
    lexParts_row (fun _ h => by cases h) (by kernel_rfl) (fun _ h => by cases h) lexParts_row_tie rfl ⟨rfl, rfl⟩ (by kernel_rfl) rfl
    (fun f fn hf hfn => by
      obtain rfl : f = 8 := Option.some.inj ((show Tryd.prog.funcNamed "chitty/chittylaw16.LexParts" = some 8 by kernel_rfl).symm.trans hf) |>.symm
      obtain rfl : fn = Tryd.f8 := (Option.some.inj (Tryd.func8.symm.trans hfn)).symm
      exact ⟨by kernel_rfl, fun j t ht => by
        rw [Tryd.params8] at ht
        have hm : t ∈ [9, 9, 30] := by simpa using Array.mem_of_getElem? ht
        have hall : ([9, 9, 30].all fun u => !Tryd.prog.wantsStandIn u) = true := by kernel_rfl
        exact (show Tryd.prog.wantsStandIn t = false by simpa using List.all_eq_true.1 hall t hm)⟩)
    (by kernel_rfl)
end Go.Proofs.YtckcadhjpjjmjaaDoor
