/- Names, words, and a text's pieces: the plain laws of layer 16. No condition. -/
import Derived.Test.YtckcadhjpjjmjaaDoorRepB
import Derived.Lib.SplitLaws
import Derived.Lib.Join
import Derived.Laws.RangeAny
import Derived.Shelf.GgClosure.StringsIndexFunc
namespace Go.Proofs.YtckcadhjpjjmjaaDoor
open Go.RowKit
/-- A text's pieces between a sign. -/
def spl (c : UInt8) : List UInt8 → List (List UInt8)
  | [] => [[]]
  | b :: t => if b = c then [] :: spl c t else match spl c t with
    | [] => [[b]]
    | h :: r => (b :: h) :: r
theorem spl_ne (c : UInt8) : ∀ s, spl c s ≠ []
  | [] => by simp [spl]
  | b :: t => by
    unfold spl
    split
    · simp
    · split <;> simp
theorem spl_len (c : UInt8) : ∀ s, (spl c s).length = s.count c + 1
  | [] => rfl
  | b :: t => by
    have h := spl_len c t
    unfold spl
    split
    · rename_i hb; subst hb
      rw [List.length_cons, h, List.count_cons_self]
    · rename_i hb
      rw [List.count_cons_of_ne (by simpa using hb)]
      split
      · rename_i h0; exact absurd h0 (spl_ne c t)
      · rename_i x r h0; rw [h0, List.length_cons] at h; rw [List.length_cons, h]
theorem spl_one (c : UInt8) : ∀ s, c ∉ s → spl c s = [s]
  | [], _ => rfl
  | b :: t, h => by
    have hb : ¬ b = c := fun e => h (by rw [e]; exact List.mem_cons_self)
    rw [spl, if_neg hb, spl_one c t (fun e => h (List.mem_cons_of_mem _ e))]
theorem spl_cut (c : UInt8) (t : List UInt8) : ∀ x, c ∉ x → spl c (x ++ c :: t) = x :: spl c t
  | [], _ => by rw [List.nil_append, spl, if_pos rfl]
  | b :: x, h => by
    have hb : ¬ b = c := fun e => h (by rw [e]; exact List.mem_cons_self)
    rw [List.cons_append, spl, if_neg hb, spl_cut c t x (fun e => h (List.mem_cons_of_mem _ e))]
theorem occ_one (s : List UInt8) (c : UInt8) (i : Nat) : Lib.occAt s [c] i = true ↔ s[i]? = some c := by
  unfold Lib.occAt
  rw [← List.head?_drop]
  cases s.drop i with
  | nil => simp [List.isPrefixOf]
  | cons a l =>
    simp only [List.isPrefixOf, Bool.and_true, beq_iff_eq, List.head?_cons, Option.some.injEq]
    exact eq_comm
theorem splK (c : UInt8) : ∀ (k : Nat) (s : List UInt8), s.count c = k → Lib.splitK [c] 0 k s = spl c s
  | 0, s, h => by rw [Lib.splitK, spl_one c s (List.count_eq_zero.1 h)]
  | k + 1, s, h => by
    rw [Lib.splitK]
    rcases Lib.index_spec s [c] with ⟨_, h2⟩ | ⟨i, h1, h2, h3, h4⟩
    · have hn : c ∉ s := fun hm => by
        obtain ⟨j, hj, e⟩ := List.mem_iff_getElem.1 hm
        have := h2 j (by omega)
        rw [(occ_one s c j).2 (by rw [List.getElem?_eq_getElem hj, e])] at this
        cases this
      rw [List.count_eq_zero.2 hn] at h
      cases h
    · have hi : s[i]? = some c := (occ_one s c i).1 h3
      obtain ⟨hlt, he⟩ := List.getElem?_eq_some_iff.1 hi
      have hs : s = s.take i ++ c :: s.drop (i + 1) := by
        rw [← he, ← List.drop_eq_getElem_cons hlt, List.take_append_drop]
      have hno : c ∉ s.take i := fun hm => by
        obtain ⟨j, hj, e⟩ := List.mem_iff_getElem.1 hm
        rw [List.length_take] at hj
        rw [List.getElem_take] at e
        have := h4 j (by omega)
        rw [(occ_one s c j).2 (by rw [List.getElem?_eq_getElem (by omega), e])] at this
        cases this
      have hc : (s.drop (i + 1)).count c = k := by
        rw [hs, List.count_append, List.count_eq_zero.2 hno, List.count_cons_self] at h
        omega
      rw [h1, if_neg (by simp), Int.toNat_natCast, List.length_singleton, splK c k _ hc]
      conv => rhs; rw [hs]
      rw [spl_cut c _ _ hno]
      simp
/-- Pieces without the sign, joined, come back. -/
theorem spl_join (c : UInt8) : ∀ l : List (List UInt8), l ≠ [] → (∀ x ∈ l, c ∉ x) → spl c (Lib.join l [c]) = l
  | [], h, _ => absurd rfl h
  | [x], _, h => by rw [Lib.join_one, spl_one c x (h x List.mem_cons_self)]
  | x :: y :: r, _, h => by
    have e : Lib.join (x :: y :: r) [c] = x ++ c :: Lib.join (y :: r) [c] := by
      rw [Lib.join_cons, Lib.join_cons]
      simp [Lib.joinTail]
    rw [e, spl_cut c _ _ (h x List.mem_cons_self), spl_join c (y :: r) (by simp) (fun z hz => h z (List.mem_cons_of_mem _ hz))]
/-- Is there a rune beyond bounds? Just if there is such a byte. -/
theorem idx_out (p : Nat → Bool) (lo hi : Nat) (hhi : hi < 128) (hp : ∀ n, p n = (decide (n < lo) || decide (hi < n))) (s : ByteArray) : ∀ (f pos : Nat), s.size ≤ pos + f →
    decide (0 ≤ Lib.idxFuncFrom p true s f pos) = ((s.data.toList.drop pos).any fun b => decide (b.toNat < lo) || decide (hi < b.toNat))
  | 0, pos, h => by
    have hl : s.data.toList.length = s.size := rfl
    rw [List.drop_eq_nil_of_le (by omega)]
    rfl
  | f + 1, pos, h => by
    have hl : s.data.toList.length = s.size := rfl
    unfold Lib.idxFuncFrom
    by_cases hp1 : pos < s.size
    · have hd : s.data.toList.drop pos = (s[pos]'hp1) :: s.data.toList.drop (pos + 1) := by
        rw [List.drop_eq_getElem_cons (by omega)]; rfl
      rw [if_pos hp1, hd, List.any_cons]
      rcases Nat.lt_or_ge (s[pos]'hp1).toNat 128 with hb | hb
      · rw [decode_ascii s pos hp1 hb, ← hp]
        cases hpb : p (s[pos]'hp1).toNat with
        | true => rw [if_pos rfl]; simp
        | false =>
          rw [if_neg (by simp), Bool.false_or]
          exact idx_out p lo hi hhi hp s f (pos + 1) (by omega)
      · have hdh := (decode_high s pos hp1 hb).1
        rw [hp, if_pos (by simp; omega)]
        simp
        omega
    · rw [if_neg hp1, List.drop_eq_nil_of_le (by omega)]
      rfl
/-- Is it a name? -/
def isNm (w : List UInt8) : Bool := decide (1 ≤ w.length) && decide (w.length ≤ 16) && !(w.any fun b => decide (b.toNat < 97) || decide (122 < b.toNat))
theorem isNm_comma {w : List UInt8} (h : isNm w = true) : (44 : UInt8) ∉ w := fun hm => by
  simp only [isNm, Bool.and_eq_true, Bool.not_eq_true', List.any_eq_false] at h
  have := h.2 44 hm
  simp at this
section
variable (ge : List UInt8 → List UInt8 → Bool)
/-- Are they names, each above the one ahead? -/
def rises : Option (List UInt8) → List (List UInt8) → Bool
  | _, [] => true
  | p, w :: t => (isNm w && !(match p with | none => false | some q => ge q w)) && rises (some w) t
theorem rises_nm : ∀ (p : Option (List UInt8)) (l : List (List UInt8)), rises ge p l = true → ∀ w ∈ l, isNm w = true
  | _, [], _, w, hw => absurd hw (by simp)
  | p, x :: t, h, w, hw => by
    unfold rises at h
    rw [Bool.and_eq_true, Bool.and_eq_true] at h
    rcases List.mem_cons.1 hw with rfl | hw
    · exact h.1.1
    · exact rises_nm (some x) t h.2 w hw
/-- Are they names that rise, and not too many? -/
def riseB (l : List (List UInt8)) : Bool := decide (1 ≤ l.length) && decide (l.length ≤ 32) && rises ge none l
/-- A text's names. -/
def namesB (s : List UInt8) : Option (List (List UInt8)) := if riseB ge (spl 44 s) = true then some (spl 44 s) else none
/-- Names' text. -/
def joinB (l : List (List UInt8)) : List UInt8 := if riseB ge l = true then Lib.join l [44] else []
theorem names_nil : namesB ge [] = none := by
  have h : riseB ge (spl 44 []) = false := by simp [riseB, spl, rises, isNm]
  rw [namesB, h]; rfl
theorem rise_join {l : List (List UInt8)} (h : riseB ge l = true) : spl 44 (Lib.join l [44]) = l := by
  simp only [riseB, Bool.and_eq_true, decide_eq_true_eq] at h
  refine spl_join 44 l ?_ fun x hx => isNm_comma (rises_nm ge none l h.2 x hx)
  intro e; rw [e] at h; exact absurd h.1.1 (by simp)
/-- What is joined, and read back. -/
theorem join_back (l : List (List UInt8)) : (match namesB ge (Lib.join l [44]) with | some m => if m = l then Lib.join l [44] else [] | none => []) = joinB ge l := by
  unfold joinB
  by_cases h : riseB ge l = true
  · rw [namesB, rise_join ge h, if_pos h, if_pos h]
    exact if_pos rfl
  · rw [if_neg h, namesB]
    by_cases h2 : riseB ge (spl 44 (Lib.join l [44])) = true
    · rw [if_pos h2]
      by_cases h3 : spl 44 (Lib.join l [44]) = l
      · exact absurd (h3 ▸ h2) h
      · exact if_neg h3
    · rw [if_neg h2]
theorem names_back (l : List (List UInt8)) : namesB ge (joinB ge l) = if riseB ge l = true then some l else none := by
  unfold joinB
  by_cases h : riseB ge l = true
  · rw [if_pos h, if_pos h, namesB, rise_join ge h, if_pos h]
  · rw [if_neg h, if_neg h, names_nil]
theorem join_ne (l : List (List UInt8)) (h : riseB ge l = true) : joinB ge l ≠ [] := by
  intro e
  have := names_back ge l
  rw [e, names_nil, if_pos h] at this
  cases this
end
end Go.Proofs.YtckcadhjpjjmjaaDoor
