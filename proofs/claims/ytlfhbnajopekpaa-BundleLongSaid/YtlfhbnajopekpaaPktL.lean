/- The plain law of layers 8 to 10: what is written is read, in one way. No condition. -/
import Derived.Test.YtlfhbnajopekpaaPkt8
namespace Go.Proofs.Ytlfhbnajopekpaa

theorem ofNat_toNat {n : Nat} (h : n < 256) : (UInt8.ofNat n).toNat = n := by
  simp
  omega
theorem vgo_put : ∀ (n i acc : Nat) (r : List UInt8), i ≤ 9 → n * 128 ^ i < 18446744073709551616 → (i = 0 ∨ n ≠ 0) → vgo i acc (vput n ++ r) = (acc + n * 128 ^ i, i + (vput n).length) := by
  intro n
  induction n using Nat.strongRecOn with
  | ind n ih =>
    intro i acc r hi hn h0
    by_cases h : n < 128
    · rw [vput_lt h]
      have ht : (UInt8.ofNat n).toNat = n := ofNat_toNat (by omega)
      show vgo i acc (UInt8.ofNat n :: r) = _
      rw [vgo_c (by omega) ?_ (by rw [ht]; exact h) (by rw [ht]; omega), ht]
      · rfl
      · rw [ht]
        rintro ⟨rfl, h1⟩
        omega
    · rw [vput_ge h]
      have ht : (UInt8.ofNat (n % 128 + 128)).toNat = n % 128 + 128 := ofNat_toNat (by omega)
      have hi9 : i < 9 := by
        rcases Nat.lt_or_ge i 9 with h' | h'
        · exact h'
        · obtain rfl : i = 9 := by omega
          have : 128 * 128 ^ 9 ≤ n * 128 ^ 9 := Nat.mul_le_mul_right _ (by omega)
          omega
      show vgo i acc (UInt8.ofNat (n % 128 + 128) :: (vput (n / 128) ++ r)) = _
      rw [vgo_d (by omega) (by omega) (by rw [ht]; omega), ht]
      have e : n * 128 ^ i = n % 128 * 128 ^ i + n / 128 * 128 ^ (i + 1) := by
        have := Nat.div_add_mod n 128
        rw [Nat.pow_succ, ← Nat.mul_assoc, Nat.mul_right_comm, ← Nat.add_mul]
        congr 1
        omega
      rw [ih (n / 128) (by omega) (i + 1) _ r (by omega) (by rw [e] at hn; omega) (.inr (by omega))]
      rw [show (n % 128 + 128) % 128 = n % 128 by omega]
      simp only [List.length_cons]
      congr 1
      · omega
      · omega
theorem vget_put {n : Nat} (h : n < 18446744073709551616) (r : List UInt8) : vget (vput n ++ r) = (n, (vput n).length) := by
  have := vgo_put n 0 0 r (by omega) (by simpa using h) (.inl rfl)
  simpa [vget] using this
theorem vgo_back : ∀ (l : List UInt8) (i acc n k : Nat), vgo i acc l = (n, k) → k ≠ 0 → ∃ m, l = vput m ++ l.drop (vput m).length ∧ k = i + (vput m).length ∧ n = acc + m * 128 ^ i ∧ (i = 0 ∨ m ≠ 0)
  | [], i, acc, n, k, h, hk => by simp [vgo] at h; omega
  | x :: l, i, acc, n, k, h, hk => by
    by_cases h10 : 10 ≤ i
    · rw [vgo, if_pos h10] at h; simp at h; omega
    by_cases h9 : i = 9 ∧ 1 < x.toNat
    · rw [vgo_a h9.1 h9.2] at h; simp at h; omega
    by_cases h1 : x.toNat < 128
    · by_cases h2 : 0 < i ∧ x.toNat = 0
      · rw [vgo_b (by omega) h9 h1 h2.1 h2.2] at h; simp at h; omega
      · rw [vgo_c (by omega) h9 h1 h2] at h
        simp only [Prod.mk.injEq] at h
        refine ⟨x.toNat, ?_, ?_, h.1.symm, by omega⟩
        · rw [vput_lt h1]; simp
        · rw [vput_lt h1]; simp; omega
    · rw [vgo_d (by omega) h9 h1] at h
      obtain ⟨m, e1, e2, e3, e4⟩ := vgo_back l (i + 1) _ n k h hk
      have hm : m ≠ 0 := by omega
      have hx := x.toNat_lt
      have hv : vput (x.toNat % 128 + 128 * m) = x :: vput m := by
        rw [vput_ge (by omega)]
        congr 1
        · rw [show (x.toNat % 128 + 128 * m) % 128 + 128 = x.toNat by omega]
          simp
        · congr 1
          omega
      refine ⟨x.toNat % 128 + 128 * m, ?_, ?_, ?_, .inr (by omega)⟩
      · rw [hv]; simpa using e1
      · rw [hv]; simp; omega
      · rw [e3, Nat.pow_succ, Nat.add_mul]
        have : 128 * m * 128 ^ i = m * (128 ^ i * 128) := by rw [Nat.mul_comm (128 ^ i), ← Nat.mul_assoc, Nat.mul_comm m 128]
        omega
theorem vget_back {l : List UInt8} {n k : Nat} (h : vget l = (n, k)) (hk : k ≠ 0) : l = vput n ++ l.drop k ∧ k = (vput n).length := by
  obtain ⟨m, e1, e2, e3, _⟩ := vgo_back l 0 0 n k h hk
  simp at e2 e3
  subst e3 e2
  exact ⟨e1, rfl⟩

theorem fget_put (f : Fld) (h : f.value.size < 18446744073709551616) (r : List UInt8) : fget (fput f ++ r) = some (f, (fput f).length) := by
  show fget (f.kind :: (vput f.value.size ++ byt f.value ++ r)) = _
  rw [List.append_assoc, fget, vget_put h]
  have hp := vput_pos f.value.size
  simp only [List.drop_left]
  rw [if_neg (by
    rintro (h1 | h1)
    · omega
    · rw [List.length_append, byt_len] at h1; omega)]
  have e : txt ((byt f.value ++ r).take f.value.size) = f.value := by
    rw [← byt_len, List.take_left, txt_byt]
  rw [e]
  simp [fput]
  omega
theorem fget_back {l : List UInt8} {f : Fld} {k : Nat} (h : fget l = some (f, k)) : l = fput f ++ l.drop k ∧ k = (fput f).length := by
  cases l with
  | nil => simp [fget] at h
  | cons a r =>
    rw [fget] at h
    split at h
    · cases h
    · rename_i hc
      simp only [Option.some.injEq, Prod.mk.injEq] at h
      obtain ⟨rfl, rfl⟩ := h
      obtain ⟨e1, e2⟩ := vget_back (l := r) (n := (vget r).1) (k := (vget r).2) rfl (by omega)
      have hlen : ((r.drop (vget r).2).take (vget r).1).length = (vget r).1 := by simp at hc ⊢; omega
      have hs : (txt ((r.drop (vget r).2).take (vget r).1)).size = (vget r).1 := by rw [txt_size, hlen]
      have hf : fput ⟨a, txt ((r.drop (vget r).2).take (vget r).1)⟩ = a :: (vput (vget r).1 ++ (r.drop (vget r).2).take (vget r).1) := by
        rw [fput, byt_txt]
        simp only [hs]
      rw [hf]
      refine ⟨?_, ?_⟩
      · rw [show 1 + (vget r).2 + (vget r).1 = ((vget r).2 + (vget r).1) + 1 by omega, List.drop_succ_cons, ← List.drop_drop]
        simp only [List.cons_append, List.append_assoc, List.take_append_drop]
        rw [← e1]
      · simp only [List.length_cons, List.length_append, hlen, ← e2]
        omega
theorem fput_ne (f : Fld) (r : List UInt8) : fput f ++ r ≠ [] := by simp [fput]
theorem fall_join : ∀ (l : List Fld), (∀ f ∈ l, f.value.size < 18446744073709551616) → fall (fjoin l) = some l
  | [], _ => fall_nil
  | f :: l, h => by
    have e : fjoin (f :: l) = fput f ++ fjoin l := by simp [fjoin]
    rw [e, fall_some (fput_ne f _) (fget_put f (h f (by simp)) _), List.drop_left, fall_join l (fun x hx => h x (by simp [hx]))]
    rfl
theorem fall_back : ∀ (k : Nat) (b : List UInt8) (l : List Fld), b.length ≤ k → fall b = some l → fjoin l = b
  | 0, b, l, hk, h => by
    obtain rfl : b = [] := List.eq_nil_of_length_eq_zero (by omega)
    rw [fall_nil] at h
    cases h
    rfl
  | k + 1, b, l, hk, h => by
    by_cases h0 : b = []
    · subst h0
      rw [fall_nil] at h
      cases h
      rfl
    · cases hg : fget b with
      | none => rw [fall_none h0 hg] at h; cases h
      | some fn =>
        obtain ⟨f, n⟩ := fn
        rw [fall_some h0 hg] at h
        obtain ⟨r, hr, rfl⟩ := Option.map_eq_some_iff.1 h
        obtain ⟨e1, e2⟩ := fget_back hg
        have hp := fget_pos hg
        have := fall_back k (b.drop n) r (by simp; omega) hr
        show fjoin (f :: r) = b
        rw [show fjoin (f :: r) = fput f ++ fjoin r by simp [fjoin], this]
        exact e1.symm
theorem take_cons (k : UInt8) (v : ByteArray) (r : List Fld) : ptake k (⟨k, v⟩ :: r) = some (v, r) := by simp [ptake]
theorem take_back {k : UInt8} {l r : List Fld} {v : ByteArray} (h : ptake k l = some (v, r)) : l = ⟨k, v⟩ :: r := by
  cases l with
  | nil => cases h
  | cons f q =>
    simp only [ptake] at h
    split at h
    · rename_i hf
      cases h
      cases f
      simp at hf
      subst hf
      rfl
    · cases h
theorem num_cons (k : UInt8) {n : Nat} (h : n < 18446744073709551616) (r : List Fld) : pnum k (⟨k, txt (vput n)⟩ :: r) = some (n, r) := by
  have hv := vget_put h []
  rw [List.append_nil] at hv
  have hp := vput_pos n
  rw [pnum, take_cons]
  simp only [Option.bind_some, byt_txt, hv, txt_size]
  rw [if_neg (by omega)]
theorem num_back {k : UInt8} {l r : List Fld} {n : Nat} (h : pnum k l = some (n, r)) : l = ⟨k, txt (vput n)⟩ :: r ∧ n < 18446744073709551616 := by
  unfold pnum at h
  obtain ⟨⟨v, q⟩, h1, h2⟩ := Option.bind_eq_some_iff.1 h
  simp only at h2
  split at h2
  · cases h2
  · rename_i hc
    simp only [Option.some.injEq, Prod.mk.injEq] at h2
    obtain ⟨rfl, rfl⟩ := h2
    have hb := take_back h1
    obtain ⟨e1, e2⟩ := vget_back (l := byt v) (n := (vget (byt v)).1) (k := (vget (byt v)).2) rfl (by omega)
    have hd : (byt v).drop (vget (byt v)).2 = [] := List.drop_eq_nil_of_le (by rw [byt_len]; omega)
    rw [hd, List.append_nil] at e1
    refine ⟨?_, vget_lt _⟩
    rw [← e1, txt_byt]
    exact hb
theorem third_cons {x : Cav} (h3 : x.third = true) (hc : canC x = true) (hp : x.party < 18446744073709551616) (r : List Fld) : pthird (cavFlds x ++ r) = some (x, r) := by
  have ht : x.text = ByteArray.empty := by
    unfold canC at hc
    rw [h3] at hc
    simp at hc
    exact hc.1.1
  have e : cavFlds x = [⟨4, txt (vput x.party)⟩, ⟨5, x.id⟩, ⟨6, x.vault⟩] := by rw [cavFlds, h3]; rfl
  rw [e]
  show pthird (⟨4, txt (vput x.party)⟩ :: ⟨5, x.id⟩ :: ⟨6, x.vault⟩ :: r) = _
  rw [pthird, num_cons 4 hp]
  simp only [Option.bind_some, take_cons, Option.map_some]
  cases x
  simp at h3 ht
  subst h3 ht
  rfl
/-- What follows caveats begins with another kind. -/
def NoCav (l : List Fld) : Prop := pis 3 (some l) = false ∧ pis 4 (some l) = false
theorem pcavs_join : ∀ (cs : List Cav) (r : List Fld), (∀ x ∈ cs, canC x = true ∧ x.party < 18446744073709551616) → NoCav r → pcavs (cs.flatMap cavFlds ++ r) = some (cs, r)
  | [], r, _, hr => pcavs_end hr.1 hr.2
  | x :: cs, r, h, hr => by
    have hx := h x (by simp)
    have ih := pcavs_join cs r (fun y hy => h y (by simp [hy])) hr
    rw [List.flatMap_cons, List.append_assoc]
    cases h3 : x.third with
    | true =>
      have e : cavFlds x = [⟨4, txt (vput x.party)⟩, ⟨5, x.id⟩, ⟨6, x.vault⟩] := by rw [cavFlds, h3]; rfl
      have ht := third_cons h3 hx.1 hx.2 (cs.flatMap cavFlds ++ r)
      rw [pcavs_third (by rw [e]; rfl) (by rw [e]; rfl) ht, ih]
      rfl
    | false =>
      have e : cavFlds x = [⟨3, x.text⟩] := by rw [cavFlds, h3]; rfl
      have hc := hx.1
      unfold canC at hc
      rw [h3] at hc
      simp [cav_mk] at hc
      rw [e]
      show pcavs (⟨3, x.text⟩ :: (cs.flatMap cavFlds ++ r)) = _
      rw [pcavs_text (x := x.text) (r := cs.flatMap cavFlds ++ r) rfl (take_cons 3 x.text _), ih]
      simp only [Option.map_some]
      congr 2
      congr 1
      exact (cav_mk.2 ⟨h3, rfl, hc.2.2.1, hc.2.2.2.1, hc.2.2.2.2⟩).symm
theorem third_back {l r : List Fld} {x : Cav} (h : pthird l = some (x, r)) : l = cavFlds x ++ r ∧ x.party < 18446744073709551616 := by
  unfold pthird at h
  obtain ⟨⟨p, l1⟩, ha, h⟩ := Option.bind_eq_some_iff.1 h
  obtain ⟨⟨i, l2⟩, hb, h⟩ := Option.bind_eq_some_iff.1 h
  obtain ⟨⟨v, l3⟩, hc, h⟩ := Option.map_eq_some_iff.1 h
  simp only [Prod.mk.injEq] at h
  obtain ⟨rfl, rfl⟩ := h
  simp only at hb hc
  obtain ⟨e1, e2⟩ := num_back ha
  have e3 := take_back hb
  have e4 := take_back hc
  refine ⟨?_, e2⟩
  rw [e1, e3, e4]
  rfl
theorem pcavs_back : ∀ (k : Nat) (l r : List Fld) (cs : List Cav), l.length ≤ k → pcavs l = some (cs, r) → l = cs.flatMap cavFlds ++ r ∧ (∀ x ∈ cs, x.party < 18446744073709551616) := by
  intro k
  induction k with
  | zero =>
    intro l r cs hk h
    obtain rfl : l = [] := List.eq_nil_of_length_eq_zero (by omega)
    rw [pcavs_end (by rfl) (by rfl)] at h
    cases h
    exact ⟨rfl, by simp⟩
  | succ k ih =>
    intro l r cs hk h
    cases h3 : pis 3 (some l) with
    | true =>
      obtain ⟨v, q, ht⟩ := pis_take h3
      rw [pcavs_text h3 ht] at h
      obtain ⟨⟨cs', r'⟩, h1, h2⟩ := Option.map_eq_some_iff.1 h
      simp only [Prod.mk.injEq] at h2
      obtain ⟨rfl, rfl⟩ := h2
      have := ptake_len ht
      obtain ⟨e1, e2⟩ := ih q r' cs' (by omega) h1
      refine ⟨?_, ?_⟩
      · rw [take_back ht, e1]; rfl
      · intro x hx
        simp at hx
        rcases hx with rfl | hx
        · show (0 : Nat) < _; decide
        · exact e2 x hx
    | false =>
      cases h4 : pis 4 (some l) with
      | false =>
        rw [pcavs_end h3 h4] at h
        cases h
        exact ⟨rfl, by simp⟩
      | true =>
        cases ht : pthird l with
        | none => rw [pcavs_bad h3 h4 ht] at h; cases h
        | some xr =>
          obtain ⟨x, q⟩ := xr
          rw [pcavs_third h3 h4 ht] at h
          obtain ⟨⟨cs', r'⟩, h1, h2⟩ := Option.map_eq_some_iff.1 h
          simp only [Prod.mk.injEq] at h2
          obtain ⟨rfl, rfl⟩ := h2
          have := pthird_len ht
          obtain ⟨e1, e2⟩ := ih q r' cs' (by omega) h1
          obtain ⟨e3, e4⟩ := third_back ht
          refine ⟨?_, ?_⟩
          · rw [e3, e1]; simp
          · intro y hy
            simp at hy
            rcases hy with rfl | hy
            · exact e4
            · exact e2 y hy
theorem tagOf_self (t : Tg) : tagOf (byt (txt t.l)) = some t := by
  rw [byt_txt, tagOf, dif_pos t.len]
theorem tagOf_back {b : List UInt8} {t : Tg} (h : tagOf b = some t) : b = t.l := by
  unfold tagOf at h
  split at h
  · cases h; rfl
  · cases h
theorem flag_dec (b : Bool) : decide (flagB b = b1) = b := by cases b <;> decide
/-- Numbers as they may be in memory. -/
def Tok.ok (t : Tok) : Prop := t.key < 18446744073709551616 ∧ ∀ x ∈ t.cavs, x.party < 18446744073709551616
/-- A token that can be comes back from its bytes. -/
theorem pdec_enc {t : Tok} (h : checkT t = true) (hk : t.ok) : pdec (enc t) = some t := by
  have hc : t.id.size ≤ 1024 ∧ t.cavs.length ≤ 64 ∧ t.cavs.all canC = true := by
    simp only [checkT, Bool.and_eq_true, decide_eq_true_eq] at h
    exact ⟨h.1.1, h.1.2, h.2⟩
  have hsz : ∀ f ∈ encFlds t, f.value.size < 18446744073709551616 := by
    intro f hf
    unfold encFlds at hf
    simp only [List.mem_append, List.mem_flatMap, List.mem_cons, List.not_mem_nil, or_false] at hf
    rcases hf with ((rfl | rfl) | ⟨x, hx, hf⟩) | (rfl | rfl)
    · simp only [txt_size]; have := vput_len10 hk.1; omega
    · simp only; omega
    · have hx' := can_small (List.all_eq_true.1 hc.2.2 x hx)
      have hp := vput_len10 (hk.2 x hx)
      unfold cavFlds at hf
      split at hf
      · simp only [List.mem_cons, List.not_mem_nil, or_false] at hf
        rcases hf with rfl | rfl | rfl
        · simp only [txt_size]; omega
        · simp only; omega
        · simp only; omega
      · simp only [List.mem_cons, List.not_mem_nil, or_false] at hf
        subst hf
        simp only
        omega
    · cases t.bnd <;> decide
    · simp only [txt_size, t.tag.len]; decide
  rw [enc, pdec, fall_join _ hsz]
  simp only [Option.bind_some, encFlds, List.cons_append, List.nil_append, num_cons 1 hk.1, take_cons]
  rw [pcavs_join t.cavs _ (fun x hx => ⟨List.all_eq_true.1 hc.2.2 x hx, hk.2 x hx⟩) ⟨rfl, rfl⟩]
  simp only [Option.bind_some, take_cons, tagOf_self, flag_dec]
  rw [if_pos ⟨trivial, by cases t.bnd <;> decide, h⟩]
/-- Bytes that are read are written as they were. -/
theorem pdec_back {b : List UInt8} {t : Tok} (h : pdec b = some t) : enc t = b ∧ checkT t = true ∧ t.ok := by
  unfold pdec at h
  obtain ⟨l0, e0, h⟩ := Option.bind_eq_some_iff.1 h
  obtain ⟨⟨k, l1⟩, e1, h⟩ := Option.bind_eq_some_iff.1 h
  obtain ⟨⟨i, l2⟩, e2, h⟩ := Option.bind_eq_some_iff.1 h
  obtain ⟨⟨cs, l3⟩, e3, h⟩ := Option.bind_eq_some_iff.1 h
  obtain ⟨⟨f, l4⟩, e4, h⟩ := Option.bind_eq_some_iff.1 h
  obtain ⟨⟨m, l5⟩, e5, h⟩ := Option.bind_eq_some_iff.1 h
  obtain ⟨tg, e6, h⟩ := Option.bind_eq_some_iff.1 h
  simp only at h
  split at h
  · rename_i hc
    cases h
    obtain ⟨rfl, hf, hck⟩ := hc
    simp only at e2 e3 e4 e5 e6
    obtain ⟨n1, n2⟩ := num_back e1
    have n3 := take_back e2
    obtain ⟨n4, n5⟩ := pcavs_back _ _ _ _ (Nat.le_refl _) e3
    have n6 := take_back e4
    have n7 := take_back e5
    have n8 := tagOf_back e6
    refine ⟨?_, hck, n2, n5⟩
    rw [enc, ← fall_back _ b l0 (Nat.le_refl _) e0]
    congr 1
    have hfl : flagB (decide (f = b1)) = f := by
      rcases hf with rfl | rfl <;> rfl
    have hm : txt tg.l = m := by rw [← n8, txt_byt]
    rw [encFlds]
    simp only [hfl, hm]
    rw [n1, n3, n4, n6, n7]
    simp
  · cases h
end Go.Proofs.Ytlfhbnajopekpaa
