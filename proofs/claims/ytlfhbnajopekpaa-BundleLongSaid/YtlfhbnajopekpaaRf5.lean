/- The document's answer for layer 10 reads what packet.Decode reads: the plain law. No condition. -/
import Derived.Test.YtlfhbnajopekpaaRf3d
namespace Go.Proofs.Ytlfhbnajopekpaa

/-- The first 32 bytes in place of a tag's. -/
def overlay (t : Tg) (b : List UInt8) : Tg := ⟨b.take 32 ++ t.l.drop (min 32 b.length), by simp [t.len]; omega⟩
/-- One field more. -/
def rstep (t : Tok) (f : Fld) : Tok :=
  if f.kind = 1 then { t with key := (vget (byt f.value)).1 }
  else if f.kind = 2 then { t with id := f.value }
  else if f.kind = 3 then { t with cavs := t.cavs ++ [⟨false, f.value, 0, ByteArray.empty, ByteArray.empty⟩] }
  else if f.kind = 4 then { t with cavs := t.cavs ++ [⟨true, ByteArray.empty, (vget (byt f.value)).1, ByteArray.empty, ByteArray.empty⟩] }
  else if f.kind = 5 then { t with cavs := t.cavs.modify (t.cavs.length - 1) fun c => { c with id := f.value } }
  else if f.kind = 6 then { t with cavs := t.cavs.modify (t.cavs.length - 1) fun c => { c with vault := f.value } }
  else if f.kind = 7 then { t with bnd := decide (f.value = b1) }
  else if f.kind = 8 then { t with tag := overlay t.tag (byt f.value) }
  else t
def loose (l : List Fld) : Tok := l.foldl rstep Tok.zero
def rdec (b : List UInt8) : Option Tok := (fall b).bind fun l => if checkT (loose l) = true ∧ enc (loose l) = b then some (loose l) else none

section
variable (t : Tok) (v : ByteArray)
theorem rstep1 : rstep t ⟨1, v⟩ = { t with key := (vget (byt v)).1 } := rfl
theorem rstep2 : rstep t ⟨2, v⟩ = { t with id := v } := rfl
theorem rstep3 : rstep t ⟨3, v⟩ = { t with cavs := t.cavs ++ [⟨false, v, 0, ByteArray.empty, ByteArray.empty⟩] } := rfl
theorem rstep4 : rstep t ⟨4, v⟩ = { t with cavs := t.cavs ++ [⟨true, ByteArray.empty, (vget (byt v)).1, ByteArray.empty, ByteArray.empty⟩] } := rfl
theorem rstep5 : rstep t ⟨5, v⟩ = { t with cavs := t.cavs.modify (t.cavs.length - 1) fun c => { c with id := v } } := rfl
theorem rstep6 : rstep t ⟨6, v⟩ = { t with cavs := t.cavs.modify (t.cavs.length - 1) fun c => { c with vault := v } } := rfl
theorem rstep7 : rstep t ⟨7, v⟩ = { t with bnd := decide (v = b1) } := rfl
theorem rstep8 : rstep t ⟨8, v⟩ = { t with tag := overlay t.tag (byt v) } := rfl
end
theorem modify_last {α : Type} (l : List α) (x : α) (g : α → α) : (l ++ [x]).modify ((l ++ [x]).length - 1) g = l ++ [g x] := by
  have e : (l ++ [x]).length - 1 = l.length := by simp
  rw [e]
  apply List.ext_getElem?
  intro i
  rw [List.getElem?_modify]
  rcases Nat.lt_trichotomy i l.length with h | h | h
  · have h' : ¬ l.length = i := by omega
    simp [h', List.getElem?_append_left h]
  · subst h; simp
  · have h' : ¬ l.length = i := by omega
    rw [List.getElem?_eq_none (by simp; omega), List.getElem?_eq_none (by simp; omega)]
    rfl
theorem vget_put0 {n : Nat} (h : n < 18446744073709551616) : (vget (byt (txt (vput n)))).1 = n := by
  rw [byt_txt]
  have := vget_put h []
  rw [List.append_nil] at this
  rw [this]
theorem loose_cavs : ∀ (cs : List Cav) (t : Tok), (∀ x ∈ cs, canC x = true ∧ x.party < 18446744073709551616) → (cs.flatMap cavFlds).foldl rstep t = { t with cavs := t.cavs ++ cs }
  | [], t, _ => by simp
  | x :: cs, t, h => by
    obtain ⟨hc, hp⟩ := h x (by simp)
    rw [List.flatMap_cons, List.foldl_append]
    have e : (cavFlds x).foldl rstep t = { t with cavs := t.cavs ++ [x] } := by
      cases h3 : x.third with
      | true =>
        have ht : x.text = ByteArray.empty := by
          rw [canC, h3] at hc
          simp only [if_true, Bool.and_eq_true, decide_eq_true_eq] at hc
          exact hc.1.1
        have hx : x = ⟨true, ByteArray.empty, x.party, x.id, x.vault⟩ := by
          cases x; simp only at h3 ht; subst h3 ht; rfl
        rw [cavFlds, if_pos h3]
        simp only [List.foldl_cons, List.foldl_nil, rstep4, rstep5, rstep6, vget_put0 hp, modify_last]
        rw [hx]
      | false =>
        have hx : x = ⟨false, x.text, 0, ByteArray.empty, ByteArray.empty⟩ := by
          rw [canC, h3] at hc
          simp only [Bool.false_eq_true, if_false, Bool.and_eq_true, decide_eq_true_eq] at hc
          exact hc.2
        rw [cavFlds, if_neg (by rw [h3]; decide)]
        simp only [List.foldl_cons, List.foldl_nil, rstep3]
        rw [← hx]
    rw [e, loose_cavs cs _ (fun y hy => h y (by simp [hy]))]
    simp
theorem overlay_tag (t u : Tg) : overlay t (byt (txt u.l)) = u := by
  cases u with
  | mk l len =>
    simp only [overlay, byt_txt, Tg.mk.injEq]
    rw [List.take_of_length_le (Nat.le_of_eq len), List.drop_eq_nil_of_le (by rw [t.len, len]; decide), List.append_nil]
theorem loose_enc {t : Tok} (h : checkT t = true) (hk : t.ok) : loose (encFlds t) = t := by
  have hc : t.cavs.all canC = true := by
    simp only [checkT, Bool.and_eq_true, decide_eq_true_eq] at h
    exact h.2
  rw [loose, encFlds, List.foldl_append, List.foldl_append]
  simp only [List.foldl_cons, List.foldl_nil, rstep1, rstep2, vget_put0 hk.1]
  rw [loose_cavs _ _ (fun x hx => ⟨List.all_eq_true.1 hc x hx, hk.2 x hx⟩)]
  simp only [rstep7, rstep8, flag_dec, overlay_tag, Tok.zero, List.nil_append]
theorem mem_modify {α : Type} {g : α → α} : ∀ {l : List α} {i : Nat} {x : α}, x ∈ l.modify i g → ∃ y ∈ l, x = y ∨ x = g y
  | [], i, x, h => by simp at h
  | a :: l, 0, x, h => by
    simp only [List.modify_zero_cons, List.mem_cons] at h
    rcases h with rfl | h
    · exact ⟨a, by simp, .inr rfl⟩
    · exact ⟨x, by simp [h], .inl rfl⟩
  | a :: l, i + 1, x, h => by
    simp only [List.modify_succ_cons, List.mem_cons] at h
    rcases h with rfl | h
    · exact ⟨x, by simp, .inl rfl⟩
    · obtain ⟨y, hy, e⟩ := mem_modify h
      exact ⟨y, by simp [hy], e⟩
theorem rstep_ok {t : Tok} (f : Fld) (h : t.ok) : (rstep t f).ok := by
  obtain ⟨h1, h2⟩ := h
  have hv := vget_lt (byt f.value)
  unfold rstep
  split
  · exact ⟨hv, h2⟩
  split
  · exact ⟨h1, h2⟩
  split
  · refine ⟨h1, fun x hx => ?_⟩
    simp only [List.mem_append, List.mem_singleton] at hx
    rcases hx with hx | rfl
    · exact h2 x hx
    · show 0 < 18446744073709551616; decide
  split
  · refine ⟨h1, fun x hx => ?_⟩
    simp only [List.mem_append, List.mem_singleton] at hx
    rcases hx with hx | rfl
    · exact h2 x hx
    · exact hv
  split
  · refine ⟨h1, fun x hx => ?_⟩
    obtain ⟨y, hy, rfl | rfl⟩ := mem_modify hx
    · exact h2 x hy
    · exact h2 y hy
  split
  · refine ⟨h1, fun x hx => ?_⟩
    obtain ⟨y, hy, rfl | rfl⟩ := mem_modify hx
    · exact h2 x hy
    · exact h2 y hy
  split
  · exact ⟨h1, h2⟩
  split
  · exact ⟨h1, h2⟩
  · exact ⟨h1, h2⟩
theorem foldl_ok : ∀ (l : List Fld) (t : Tok), t.ok → (l.foldl rstep t).ok
  | [], _, h => h
  | f :: r, _, h => foldl_ok r _ (rstep_ok f h)
theorem zero_tok_ok : Tok.zero.ok := ⟨by decide, by simp [Tok.zero]⟩
theorem loose_ok (l : List Fld) : (loose l).ok := foldl_ok l _ zero_tok_ok
theorem loose_snoc (l : List Fld) (f : Fld) : loose (l ++ [f]) = rstep (loose l) f := by simp [loose]
theorem rstep_len (t : Tok) (f : Fld) : (rstep t f).cavs.length ≤ t.cavs.length + 1 := by
  unfold rstep
  repeat' split
  all_goals simp
theorem rdec_eq (b : List UInt8) : rdec b = pdec b := by
  cases hp : pdec b with
  | some t =>
    obtain ⟨e, hc, hk⟩ := pdec_back hp
    have hf : fall b = some (encFlds t) := by
      rw [← e, enc, fall_join]
      intro f hf
      have := encFlds_vals hc hk f hf
      omega
    rw [rdec, hf, Option.bind_some, loose_enc hc hk, if_pos ⟨hc, e⟩]
  | none =>
    rw [rdec]
    cases hf : fall b with
    | none => rfl
    | some l =>
      rw [Option.bind_some]
      split
      · rename_i h
        have := pdec_enc h.1 (loose_ok l)
        rw [h.2, hp] at this
        cases this
      · rfl
end Go.Proofs.Ytlfhbnajopekpaa
