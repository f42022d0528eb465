/- The plain law of layer 11: a bundle out of its bytes, and back. No condition. -/
import Derived.Test.YtlfhbnajopekpaaBun2
namespace Go.Proofs.Ytlfhbnajopekpaa

def Bun.zero : Bun := ⟨Tok.zero, []⟩
def bdis : List Fld → Option (List Tok)
  | [] => some []
  | f :: r => if f.kind = 17 then (pdec (byt f.value)).bind fun t => (bdis r).map (t :: ·) else none
def bparse : List Fld → Option Bun
  | [] => some Bun.zero
  | f :: r => if f.kind = 16 then (pdec (byt f.value)).bind fun t => (bdis r).map fun ds => ⟨t, ds⟩ else none
/-- The bundle that bytes are read to. -/
def bdec (b : List UInt8) : Option Bun := (fall b).bind fun l => if l = [] then none else (bparse l).bind fun x => if checkB x then some x else none

theorem bdis_app : ∀ (a b : List Fld), bdis (a ++ b) = (bdis a).bind fun x => (bdis b).map (x ++ ·)
  | [], b => by simp [bdis]
  | f :: r, b => by
    rw [List.cons_append, bdis, bdis, bdis_app r b]
    split
    · cases pdec (byt f.value) with
      | none => rfl
      | some t =>
        cases bdis r with
        | none => rfl
        | some x => cases bdis b <;> simp
    · rfl
theorem bparse_snoc {l : List Fld} (f : Fld) (hl : l ≠ []) : bparse (l ++ [f]) = (bparse l).bind fun b => if f.kind = 17 then (pdec (byt f.value)).map fun t => ⟨b.root, b.dis ++ [t]⟩ else none := by
  cases l with
  | nil => exact absurd rfl hl
  | cons g r =>
    rw [List.cons_append, bparse, bparse, bdis_app]
    by_cases h : g.kind = 16
    · rw [if_pos h, if_pos h]
      cases pdec (byt g.value) with
      | none => rfl
      | some t =>
        cases bdis r with
        | none => rfl
        | some x =>
          simp only [Option.bind_some, bdis, Option.map_some]
          split
          · cases pdec (byt f.value) <;> simp
          · rfl
    · rw [if_neg h, if_neg h]; rfl
theorem bparse_one (f : Fld) : bparse [f] = if f.kind = 16 then (pdec (byt f.value)).map fun t => ⟨t, []⟩ else none := by
  rw [bparse]
  split
  · cases pdec (byt f.value) <;> rfl
  · rfl
theorem bparse_none {l : List Fld} {k : Nat} (h : bparse (l.take k) = none) : bparse l = none := by
  have e := List.take_append_drop k l
  cases hl : l.take k with
  | nil => rw [hl] at h; cases h
  | cons g r =>
    rw [hl] at h e
    rw [← e, List.cons_append, bparse, bdis_app]
    rw [bparse] at h
    split
    · rename_i h16
      rw [if_pos h16] at h
      cases hp : pdec (byt g.value) with
      | none => rfl
      | some t =>
        rw [hp] at h
        cases hd : bdis r with
        | none => rfl
        | some x => rw [hd] at h; cases h
    · rfl
theorem bdis_enc : ∀ (ds : List Tok), (∀ d ∈ ds, checkT d = true ∧ d.ok) → bdis (ds.map fun d => ⟨17, txt (enc d)⟩) = some ds
  | [], _ => rfl
  | d :: r, h => by
    have h1 := h d (by simp)
    rw [List.map_cons, bdis, if_pos rfl, byt_txt, pdec_enc h1.1 h1.2, Option.bind_some, bdis_enc r (fun x hx => h x (by simp [hx]))]
    rfl
theorem check_parts {b : Bun} (h : checkB b = true) : b.root.bnd = false ∧ checkT b.root = true ∧ b.dis.length ≤ 16 ∧ ∀ d ∈ b.dis, d.key = 0 ∧ checkT d = true := by
  simp only [checkB, Bool.and_eq_true, decide_eq_true_eq, Bool.not_eq_true'] at h
  refine ⟨h.1.1.1, h.1.2, h.1.1.2, fun d hd => ?_⟩
  have := List.all_eq_true.1 h.2 d hd
  simpa [checkD] using this
theorem benc_vals {b : Bun} (h : checkB b = true) (hk : b.ok) : ∀ f ∈ bencFlds b, f.value.size ≤ 400000 := by
  obtain ⟨-, h1, -, h2⟩ := check_parts h
  intro f hf
  simp only [bencFlds, List.mem_cons, List.mem_map] at hf
  rcases hf with rfl | ⟨d, hd, rfl⟩
  · simpa [txt_size] using enc_small h1 hk.1
  · simpa [txt_size] using enc_small (h2 d hd).2 (hk.2 d hd)
theorem bdec_enc {b : Bun} (h : checkB b = true) (hk : b.ok) : bdec (benc b) = some b := by
  obtain ⟨-, h1, -, h2⟩ := check_parts h
  rw [bdec, benc, fall_join _ (fun f hf => by have := benc_vals h hk f hf; omega), Option.bind_some, if_neg (by simp [bencFlds])]
  rw [bencFlds, bparse, if_pos rfl, byt_txt, pdec_enc h1 hk.1, Option.bind_some, bdis_enc _ (fun d hd => ⟨(h2 d hd).2, hk.2 d hd⟩)]
  simp [h]
theorem bdis_back : ∀ (l : List Fld) (ds : List Tok), bdis l = some ds → l = ds.map (fun d => ⟨17, txt (enc d)⟩) ∧ ∀ d ∈ ds, d.ok
  | [], ds, h => by
    rw [bdis] at h
    cases h
    simp
  | f :: r, ds, h => by
    rw [bdis] at h
    split at h
    · rename_i h17
      obtain ⟨t, ht, h⟩ := Option.bind_eq_some_iff.1 h
      obtain ⟨q, hq, rfl⟩ := Option.map_eq_some_iff.1 h
      obtain ⟨e1, e2⟩ := bdis_back r q hq
      obtain ⟨p1, p2, p3⟩ := pdec_back ht
      refine ⟨?_, fun d hd => ?_⟩
      · rw [List.map_cons, ← e1, p1, txt_byt, ← h17]
      · simp only [List.mem_cons] at hd
        rcases hd with rfl | hd
        · exact p3
        · exact e2 d hd
    · cases h
theorem bdec_back {b : List UInt8} {x : Bun} (h : bdec b = some x) : benc x = b ∧ checkB x = true ∧ x.ok := by
  obtain ⟨l, hl, h⟩ := Option.bind_eq_some_iff.1 h
  by_cases hne : l = []
  · rw [if_pos hne] at h
    cases h
  rw [if_neg hne] at h
  obtain ⟨y, hy, h⟩ := Option.bind_eq_some_iff.1 h
  split at h
  · rename_i hc
    cases h
    cases l with
    | nil => exact absurd rfl hne
    | cons f r =>
      rw [bparse] at hy
      split at hy
      · rename_i h16
        obtain ⟨t, ht, h⟩ := Option.bind_eq_some_iff.1 hy
        obtain ⟨q, hq, rfl⟩ := Option.map_eq_some_iff.1 h
        obtain ⟨e1, e2⟩ := bdis_back r q hq
        obtain ⟨p1, p2, p3⟩ := pdec_back ht
        refine ⟨?_, hc, p3, e2⟩
        rw [benc, bencFlds, ← e1, p1, txt_byt, ← h16]
        exact fall_back b.length b _ (Nat.le_refl _) hl
      · cases hy
  · cases h
theorem flds_size : ∀ (l : List Fld) (f : Fld), f ∈ l → f.value.size ≤ (fjoin l).length
  | [], f, h => by simp at h
  | g :: r, f, h => by
    have e : fjoin (g :: r) = fput g ++ fjoin r := by simp [fjoin]
    rw [e, List.length_append]
    simp only [List.mem_cons] at h
    rcases h with rfl | h
    · simp [fput]; omega
    · have := flds_size r f h; omega
theorem fall_size {b : List UInt8} {l : List Fld} (h : fall b = some l) : ∀ f ∈ l, f.value.size ≤ b.length := by
  intro f hf
  have := flds_size l f hf
  rwa [fall_back b.length b l (Nat.le_refl _) h] at this
/-- What bundle.Decode answers. -/
def bcodeD (b : List UInt8) : Nat := if 65536 < b.length then 3 else if (bdec b).isSome then 0 else 2
def bvalD (b : List UInt8) : Option Bun := if 65536 < b.length then none else bdec b
end Go.Proofs.Ytlfhbnajopekpaa
