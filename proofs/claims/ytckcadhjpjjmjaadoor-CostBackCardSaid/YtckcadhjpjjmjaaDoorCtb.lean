/- Texts of one proof, one behind the other: Reg2, Reg3, Mxd, Lx5, LxF, LxD, LxM, Dgs, Fc1, CbL, Cb1, FlL, FlP, Cb2, Cb3, Fl1, Fl2, CbT, Cb4, Fl3. No condition. -/
import Derived.Test.YtckcadhjpjjmjaaDoorCta
import Derived.Test.YtckcadhjpjjmjaaDoorChecked
import Derived.Lib.AtoiAll
import Derived.Laws.BitsAllLaws
import Ieee.Arith
import Derived.Laws.Externs
import Derived.Lib.TrailingZeros
import Derived.Shelf.Spec.TrailingZeros
import Derived.Lib.LaidTab
import Derived.Laws.FloatArith
import Derived.Shelf.Strconv.Itoa3
import Derived.Shelf.LaysM
import Derived.Test.YtckcadhjpjjmjaaDoorProg
import Derived.Deep.QuietTactic
import Derived.BigQuiet
namespace Go.Proofs.YtckcadhjpjjmjaaDoor
open Go.RowKit

section
variable {P : Program} {ops : Array Oper}

/-- THE LAW. S i: what is known of the value that operation i yields, and goes on to hold; Le: how worlds grow. -/
theorem wp_region_one {Q : Exit → Act → World → Prop} {id : Nat} {a0 : Act} {w0 : World} (hm : P.follows .mixedOrders = true) (n : Nat) (hok : regOk ops n = true)
    (hslots : ((List.range n).all fun i => (dstAt ops i).all fun d => decide (d < a0.tmps.size)) = true)
    (Le : World → World → Prop) (hrefl : ∀ w, Le w w) (htrans : ∀ w w' w'', Le w w' → Le w' w'' → Le w w'')
    (e : Nat) (T : World → Prop) (Lt : World → World → Prop) (hlt : ∀ w w', Lt w w' → Le w w') (hT0 : T w0.drew) (hT : ∀ w w', Lt w w' → T w → T w')
    (S : Nat → Value → World → Prop) (hS : ∀ i v w w', i ≠ e → Le w w' → S i v w → S i v w') (hSe : ∀ v w w', Lt w w' → S e v w → S e v w')
    (hop : ∀ i, i < n → ∀ o, ops[i]? = some o → ∀ (a : Act) (w : World), Le w0.drew w → a.defers = a0.defers → (∀ t, freeSlot ops n t = true → a.tmps.getD t undef = a0.tmps.getD t undef) →
      (∀ j d, (needs ops ops.size i).contains j = true → dstAt ops j = some d → S j (a.tmps.getD d undef) w) →
      (i = e → T w) → ∀ K : Act → World → Prop, (∀ v w', (Lt w w' ∨ i = e ∧ Le w w') → S i v w' → K (a.put o.dst v) w') → if Region.wanted o (yielded ops a.tmps) = true then o.wp P a w K Q else K (a.put o.dst undef) w)
    (hQ : ∀ (vs : Nat → Value) (w : World), Le w0.drew w → (∀ i, i < n → (dstAt ops i).isSome = true → S i (vs i) w) → wpList P ops Q (ops.toList.drop n) (putN ops vs n a0) w) :
    (Code.region id ops true).wp P Q a0 w0 := by
  refine wp_region_any hm ?_
  have hnsz : n ≤ ops.size := by simp only [regOk, Bool.and_eq_true, decide_eq_true_eq] at hok; exact hok.2
  have hslot : ∀ i d, i < n → dstAt ops i = some d → d < a0.tmps.size := by
    intro i d hi hd
    have := List.all_eq_true.1 hslots i (by simpa using hi)
    rw [hd] at this
    simpa using this
  have key : ∀ (fuel : Nat) (l : Array Bool) (a : Act) (w : World), (l.getD e false = false → T w) → l.size = ops.size → cnt l ops.size ≤ fuel → Closed ops l → (∀ i, n ≤ i → i < ops.size → l.getD i false = false) → Le w0.drew w → a.defers = a0.defers → a.tmps.size = a0.tmps.size →
      (∀ t, (∀ i, i < n → l.getD i false = true → dstAt ops i ≠ some t) → a.tmps.getD t undef = a0.tmps.getD t undef) →
      (∀ i d, i < n → l.getD i false = true → dstAt ops i = some d → S i (a.tmps.getD d undef) w) → wpAny P .any ops Q fuel l a w := by
    intro fuel
    -- all of the first n are listed: the tail
    have tail : ∀ (fuel : Nat) (l : Array Bool) (a : Act) (w : World), l.size = ops.size → cnt l ops.size ≤ fuel → (∀ i, n ≤ i → i < ops.size → l.getD i false = false) → (∀ i, i < n → l.getD i false = true) → Le w0.drew w → a.defers = a0.defers → a.tmps.size = a0.tmps.size →
        (∀ t, (∀ i, i < n → l.getD i false = true → dstAt ops i ≠ some t) → a.tmps.getD t undef = a0.tmps.getD t undef) →
        (∀ i d, i < n → l.getD i false = true → dstAt ops i = some d → S i (a.tmps.getD d undef) w) → wpAny P .any ops Q fuel l a w := by
      intro fuel l a w hs hc ht hall hle hd hsz hfree hSi
      have hcn : ∀ m, m ≤ ops.size → n ≤ m → cnt l m = m - n := by
        intro m
        induction m with
        | zero => intro _ h; rw [cnt]; omega
        | succ m ih =>
          intro h1 h2
          rw [cnt]
          by_cases e : n = m + 1
          · have : ∀ q, q ≤ m + 1 → cnt l q = 0 := by
              intro q
              induction q with
              | zero => intro _; rfl
              | succ q ihq => intro hq; rw [cnt, ihq (by omega), if_pos (hall q (by omega))]
            have h3 := this m (by omega)
            rw [h3, if_pos (hall m (by omega))]; omega
          · rw [ih (by omega) (by omega), ht m (by omega) (by omega)]
            simp; omega
      refine wpAny_tail hok fuel n l a w hs (Nat.le_refl _) hnsz (by have := hcn ops.size (Nat.le_refl _) hnsz; omega) (fun i hi => ⟨fun h => ?_, fun h => hall i h⟩) ?_
      · rcases Nat.lt_or_ge i n with h' | h'
        · exact h'
        · rw [ht i h' hi] at h; cases h
      · have ha : a = putN ops (fun i => ((dstAt ops i).map fun d => a.tmps.getD d undef).getD undef) n a0 := by
          have h1 := putN_size (ops := ops) (fun i => ((dstAt ops i).map fun d => a.tmps.getD d undef).getD undef) a0 n
          have ht : a.tmps = (putN ops (fun i => ((dstAt ops i).map fun d => a.tmps.getD d undef).getD undef) n a0).tmps := by
            apply Array.ext
            · rw [h1.1, hsz]
            · intro t ht1 ht2
              have hg : a.tmps.getD t undef = (putN ops (fun i => ((dstAt ops i).map fun d => a.tmps.getD d undef).getD undef) n a0).tmps.getD t undef := by
                by_cases hex : ∃ i, i < n ∧ dstAt ops i = some t
                · obtain ⟨i, hi, hdi⟩ := hex
                  rw [putN_at _ a0 (hsz ▸ ht1) hdi n hi (fun j hj hne hdj => regOk_dst hok hj hi hne hdj hdi)]
                  simp only [hdi, Option.map_some, Option.getD_some]
                · rw [putN_free _ a0 n (fun i hi hdi => hex ⟨i, hi, hdi⟩)]
                  exact hfree t fun i hi _ hdi => hex ⟨i, hi, hdi⟩
              have e1 : ∀ (A : Array Value) (h : t < A.size), A.getD t undef = A[t] := fun A h => by unfold Array.getD; rw [dif_pos h]; rfl
              rw [e1 _ ht1, e1 _ ht2] at hg
              exact hg
          cases a with
          | mk ta da =>
            cases hp : putN ops (fun i => ((dstAt ops i).map fun d => (Act.mk ta da).tmps.getD d undef).getD undef) n a0 with
            | mk tb db =>
              rw [hp] at ht h1
              simp only at ht h1 hd
              rw [ht, hd, h1.2]
        rw [ha]
        refine hQ _ w hle fun i hi hsome => ?_
        obtain ⟨d, hdi⟩ := Option.isSome_iff_exists.1 hsome
        simp only [hdi, Option.map_some, Option.getD_some]
        exact hSi i d hi (hall i hi) hdi
    induction fuel with
    | zero =>
      intro l a w hTl hs hc hcl ht hle hd hsz hfree hSi
      have hz := cnt_zero (l := l) (n := ops.size) (by omega)
      exact tail 0 l a w hs hc ht (fun i hi => hz i (by omega)) hle hd hsz hfree hSi
    | succ fuel ih =>
      intro l a w hTl hs hc hcl ht hle hd hsz hfree hSi
      by_cases hall : ∀ i, i < n → l.getD i false = true
      · exact tail _ l a w hs hc ht hall hle hd hsz hfree hSi
      · refine ⟨fun h0 => absurd ?_ hall, fun i hi => ?_⟩
        · -- nothing is ready: all are listed
          intro i
          induction i using Nat.strongRecOn with
          | _ i ihi =>
            intro hi
            by_cases hb : l.getD i false = true
            · exact hb
            · exfalso
              have hi' : i < ops.size := by omega
              have : i ∈ Region.ready .any ops l := mem_ready.2 ⟨by simp [hs, hi'] at hb ⊢; exact hb, _, Array.getElem?_eq_getElem hi', fun e he hbd => by
                have hlt := regOk_edges hok (Array.getElem?_eq_getElem hi') e he hbd
                exact ihi e.on hlt (by omega)⟩
              rw [h0] at this
              simp at this
        · obtain ⟨h0, o, ho, hallo⟩ := mem_ready.1 hi
          have hi' : i < ops.size := (Array.getElem?_eq_some_iff.1 ho).1
          have h0' : l.getD i false = false := by simp [hs, hi'] at h0 ⊢; exact h0
          have hin : i < n := by
            rcases Nat.lt_or_ge i n with h' | h'
            · exact h'
            · exfalso
              refine hall fun j hj => needs_listed hcl ops.size i o ho hallo j (regOk_tail hok hi' h' (by omega))
          have hneeds := needs_listed hcl ops.size i o ho hallo
          have hdst : dstAt ops i = o.dst := by simp [dstAt, ho]
          have hnext : ∀ v w', (Lt w w' ∨ i = e ∧ Le w w') → S i v w' → wpAny P .any ops Q fuel (l.setIfInBounds i true) (a.put o.dst v) w' := by
            intro v w' hlo hSv
            have hlw : Le w w' := hlo.elim (hlt _ _) And.right
            refine ih _ _ _ (fun hfe => ?_) (by simpa using hs) (by have := cnt_set (by omega) h0' hi'; omega) ?_ ?_ (htrans _ _ _ hle hlw) (by rw [put_defers']; exact hd) (by rw [put_size]; exact hsz) ?_ ?_
            · have hne : i ≠ e := fun h => by
                subst h
                rw [getD_set_same (by omega)] at hfe
                cases hfe
              rw [getD_set_ne false hne] at hfe
              rcases hlo with h | ⟨h, -⟩
              · exact hT _ _ h (hTl hfe)
              · exact absurd h hne
            · intro i' o' ho' hl' e he hb
              by_cases e' : i = i'
              · subst e'
                rw [ho] at ho'
                have := Option.some.inj ho'
                subst this
                exact getD_set_true (hallo e he hb)
              · rw [getD_set_ne false e'] at hl'
                exact getD_set_true (hcl i' o' ho' hl' e he hb)
            · intro j hj hj'
              rw [getD_set_ne false (by omega)]
              exact ht j hj hj'
            · intro t hft
              rw [getD_put_ne]
              · exact hfree t fun j hj hlj => hft j hj (getD_set_true hlj)
              · rw [← hdst]
                exact hft i hin (getD_set_same (by omega) _)
            · intro j d hj hlj hdj
              by_cases eij : i = j
              · subst eij
                rw [← hdst, hdj, getD_put_same (by rw [hsz]; exact hslot i d hin hdj)]
                exact hSv
              · rw [getD_set_ne false eij] at hlj
                rw [getD_put_ne]
                · by_cases hje : j = e
                  · subst hje
                    rcases hlo with h | ⟨h, -⟩
                    · exact hSe _ w w' h (hSi j d hj hlj hdj)
                    · exact absurd h eij
                  · exact hS j _ w w' hje hlw (hSi j d hj hlj hdj)
                · rw [← hdst]
                  exact fun h => regOk_dst hok hin hj eij h hdj
          have := hop i hin o ho a w hle hd (fun t hft => hfree t fun j hj _ hdj => by
              simp only [freeSlot, List.all_eq_true, List.mem_range, bne_iff_ne] at hft
              exact hft j hj hdj)
            (fun j d hj hdj => by
              have hjm : j ∈ needs ops ops.size i := by simpa using hj
              have hlj := hneeds j hjm
              have hjn : j < n := by
                rcases Nat.lt_or_ge j n with h' | h'
                · exact h'
                · exfalso
                  rcases Nat.lt_or_ge j ops.size with h'' | h''
                  · rw [ht j h' h''] at hlj; cases hlj
                  · simp [dstAt, Array.getElem?_eq_none h''] at hdj
              exact hSi j d hjn hlj hdj)
            (fun h => hTl (h ▸ h0')) (wpAny P .any ops Q fuel (l.setIfInBounds i true)) hnext
          unfold wpOp
          rw [ho]
          simp only
          split
          · rename_i hw; rw [if_pos hw] at this; exact .inl this
          · rename_i hw; rw [if_neg hw] at this; exact this
  refine key ops.size _ a0 w0.drew (fun _ => hT0) (by simp) ?_ ?_ ?_ (hrefl _) rfl rfl (fun _ _ => rfl) ?_
  · have : ∀ (l : Array Bool) m, cnt l m ≤ m := by
      intro l m
      induction m with
      | zero => exact Nat.le_refl _
      | succ m ih => rw [cnt]; split <;> omega
    exact this _ _
  · intro i o ho hl
    have hi : i < ops.size := (Array.getElem?_eq_some_iff.1 ho).1
    simp [hi] at hl
  · intro i _ hi
    simp [hi]
  · intro i d hi hl
    have : i < ops.size := by omega
    simp [this] at hl

theorem grownBy_refl (w : World) (o : Option Nat) : w.grownBy w o := ⟨rfl, rfl, rfl, Nat.le_refl _, fun _ _ _ => rfl⟩
theorem grownBy_trans {w w' w'' : World} {o : Option Nat} (h : w.grownBy w' o) (k : w'.grownBy w'' o) : w.grownBy w'' o :=
  ⟨k.os.trans h.os, k.tape.trans h.tape, k.output.trans h.output, Nat.le_trans h.size k.size, fun i hi hn => (k.block i (Nat.lt_of_lt_of_le hi h.size) hn).trans (h.block i hi hn)⟩
theorem grownBy_ext {w w' : World} {o : Option Nat} (h : Ext w w') : w.grownBy w' o := ⟨h.os, h.tape, h.output, h.size, fun i hi _ => h.block i hi⟩

def Hop1 (P : Program) (ops : Array Oper) (n : Nat) (a0 : Act) (w0 : World) (b : Option Nat) (e : Nat) (T : World → Prop) (S : Nat → Value → World → Prop) (Q : Exit → Act → World → Prop) (i : Nat) (o : Oper) : Prop :=
  ∀ (a : Act) (w : World), w0.grownBy w b → a.defers = a0.defers → (∀ t, freeSlot ops n t = true → a.eval (.tmp t) = a0.eval (.tmp t)) →
    (∀ j d, (needs ops ops.size i).contains j = true → dstAt ops j = some d → S j (a.eval (.tmp d)) w) → (i = e → T w) →
    ∀ K : Act → World → Prop, (∀ v w', (Ext w w' ∨ i = e ∧ w.grownBy w' b) → S i v w' → K (a.put o.dst v) w') →
      match o.guard with
      | none => o.wp P a w K Q
      | some (j, want) => if yielded ops a.tmps j = some want then o.wp P a w K Q else K (a.put o.dst undef) w
def Hops1 (P : Program) (ops : Array Oper) (n : Nat) (a0 : Act) (w0 : World) (b : Option Nat) (e : Nat) (T : World → Prop) (S : Nat → Value → World → Prop) (Q : Exit → Act → World → Prop) : List Oper → Nat → Prop
  | [], _ => True
  | o :: r, i => Hop1 P ops n a0 w0 b e T S Q i o ∧ Hops1 P ops n a0 w0 b e T S Q r (i + 1)
theorem hops1_at {n : Nat} {a0 : Act} {w0 : World} {b : Option Nat} {e : Nat} {T : World → Prop} {S : Nat → Value → World → Prop} {Q : Exit → Act → World → Prop} : ∀ (l : List Oper) (k i : Nat) (o : Oper), Hops1 P ops n a0 w0 b e T S Q l k → l[i]? = some o → Hop1 P ops n a0 w0 b e T S Q (k + i) o
  | [], _, i, o, _, hi => by simp at hi
  | x :: l, k, 0, o, h, hi => by simp at hi; subst hi; exact h.1
  | x :: l, k, i + 1, o, h, hi => by
    have := hops1_at l (k + 1) i o h.2 (by simpa using hi)
    rw [show k + (i + 1) = k + 1 + i from by omega]
    exact this
/-- b: the block that operation e may change; T: what holds until e is done. -/
theorem wp_region_own {Q : Exit → Act → World → Prop} {id : Nat} {a0 : Act} {w0 : World} (hm : P.follows .mixedOrders = true) (n : Nat) (b : Option Nat) (e : Nat) (T : World → Prop) (S : Nat → Value → World → Prop) (hok : regOk ops n = true)
    (hslots : ((List.range n).all fun i => (dstAt ops i).all fun d => decide (d < a0.tmps.size)) = true) (hT0 : T w0) (hT : ∀ w w', Ext w w' → T w → T w')
    (hS : ∀ i v w w', i ≠ e → w.grownBy w' b → S i v w → S i v w') (hSe : ∀ v w w', Ext w w' → S e v w → S e v w') (hop : Hops1 P ops n a0 w0 b e T S Q (ops.toList.take n) 0)
    (hQ : ∀ (vs : Nat → Value) (w : World), w0.grownBy w b → (∀ i, i < n → (dstAt ops i).isSome = true → S i (vs i) w) → wpList P ops Q (ops.toList.drop n) (putN ops vs n a0) w) :
    (Code.region id ops true).wp P Q a0 w0 := by
  refine wp_region_one hm n hok hslots (fun w w' => w.grownBy w' b) (fun w => grownBy_refl w b) (fun _ _ _ => grownBy_trans) e T Ext (fun _ _ => grownBy_ext) (hT _ _ (Ext.drew _) hT0) hT S hS hSe (fun i hi o ho a w hle hd hf hs hTi K hK => ?_) (fun vs w hle => hQ vs w (grownBy_trans (grownBy_ext (Ext.drew _)) hle))
  have h := hops1_at _ 0 i o hop (by rw [List.getElem?_take, if_pos hi]; simpa using ho)
  rw [Nat.zero_add] at h
  have h := h a w (grownBy_trans (grownBy_ext (Ext.drew _)) hle) hd hf hs hTi K hK
  cases hg : o.guard with
  | none =>
    rw [hg] at h
    rw [if_pos (by simp [Region.wanted, hg])]
    exact h
  | some jw =>
    obtain ⟨j, want⟩ := jw
    rw [hg] at h
    simp only at h
    split
    · rename_i hw
      rw [if_pos (by simpa [Region.wanted, hg] using hw)] at h
      exact h
    · rename_i hw
      rw [if_neg (by simpa [Region.wanted, hg] using hw)] at h
      exact h
end
end Go.Proofs.YtckcadhjpjjmjaaDoor
namespace Go.Proofs.YtckcadhjpjjmjaaDoor
open Go.RowKit
section
variable {ops : Array Oper}
def edgeB (ops : Array Oper) (i j : Nat) : Bool := ((ops[i]?).map fun o => o.after.toList.any fun e => Region.binds .any e && e.on == j).getD false
theorem edgeB_iff {i j : Nat} : edgeB ops i j = true ↔ ∃ o, ops[i]? = some o ∧ ∃ e ∈ o.after.toList, Region.binds .any e = true ∧ e.on = j := by
  unfold edgeB
  cases ho : ops[i]? with
  | none => simp
  | some o =>
    simp only [Option.map_some, Option.getD_some, List.any_eq_true, Bool.and_eq_true, beq_iff_eq]
    exact ⟨fun ⟨e, he, h⟩ => ⟨o, rfl, e, he, h⟩, fun ⟨o', ho', e, he, h⟩ => by cases ho'; exact ⟨e, he, h⟩⟩
theorem needs_one {i j : Nat} (h : edgeB ops i j = true) (f : Nat) : j ∈ needs ops (f + 1) i := by
  obtain ⟨o, ho, e, he, hb, rfl⟩ := edgeB_iff.1 h
  rw [needs, ho]
  simp only [List.mem_flatMap, List.mem_filter]
  exact ⟨e, ⟨he, hb⟩, by simp⟩
theorem needs_cons {i j f : Nat} (h : j ∈ needs ops (f + 1) i) : ∃ l, edgeB ops i l = true ∧ (j = l ∨ j ∈ needs ops f l) := by
  rw [needs] at h
  cases ho : ops[i]? with
  | none => rw [ho] at h; simp at h
  | some o =>
    rw [ho] at h
    simp only [List.mem_flatMap, List.mem_filter, List.mem_cons] at h
    obtain ⟨e, ⟨he, hb⟩, h⟩ := h
    exact ⟨e.on, edgeB_iff.2 ⟨o, ho, e, he, hb, rfl⟩, h⟩
theorem needs_step {i j l f : Nat} (h1 : edgeB ops i l = true) (h : j ∈ needs ops f l) : j ∈ needs ops (f + 1) i := by
  obtain ⟨o, ho, e, he, hb, rfl⟩ := edgeB_iff.1 h1
  rw [needs, ho]
  simp only [List.mem_flatMap, List.mem_filter, List.mem_cons]
  exact ⟨e, ⟨he, hb⟩, .inr h⟩
theorem needs_more : ∀ {f i j : Nat}, j ∈ needs ops f i → j ∈ needs ops (f + 1) i
  | 0, i, j, h => by simp [needs] at h
  | f + 1, i, j, h => by
    obtain ⟨l, h1, h2⟩ := needs_cons h
    rcases h2 with rfl | h2
    · exact needs_one h1 _
    · exact needs_step h1 (needs_more h2)
theorem needs_le {f g i j : Nat} (h : j ∈ needs ops f i) (hg : f ≤ g) : j ∈ needs ops g i := by
  obtain ⟨d, rfl⟩ : ∃ d, g = f + d := ⟨g - f, by omega⟩
  clear hg
  induction d with
  | zero => exact h
  | succ d ih => exact needs_more ih
theorem needs_snoc : ∀ {f i j l : Nat}, j ∈ needs ops f i → edgeB ops j l = true → l ∈ needs ops (f + 1) i
  | 0, i, j, l, h, _ => by simp [needs] at h
  | f + 1, i, j, l, h, he => by
    obtain ⟨k, h1, h2⟩ := needs_cons h
    rcases h2 with rfl | h2
    · exact needs_step h1 (needs_one he _)
    · exact needs_step h1 (needs_snoc h2 he)
/-- What lies ahead of operation i: from j on down. -/
def reach (ops : Array Oper) (i : Nat) : Nat → List Nat → List Nat
  | 0, acc => acc
  | j + 1, acc => reach ops i j (if acc.any (fun l => edgeB ops l j) then j :: acc else acc)
theorem reach_sound (hd : ∀ i j, edgeB ops i j = true → j < i) (i : Nat) : ∀ (k : Nat) (acc : List Nat), (∀ l ∈ acc, l = i ∨ (l < i ∧ l ∈ needs ops (i - l) i)) → ∀ l ∈ reach ops i k acc, l = i ∨ (l < i ∧ l ∈ needs ops (i - l) i)
  | 0, acc, h => h
  | j + 1, acc, h => by
    rw [reach]
    refine reach_sound hd i j _ ?_
    split
    · rename_i ha
      obtain ⟨l, hl, he⟩ := List.any_eq_true.1 ha
      intro q hq
      rcases List.mem_cons.1 hq with rfl | hq
      · have hjl := hd l q he
        rcases h l hl with rfl | ⟨h1, h2⟩
        · exact .inr ⟨hjl, needs_le (needs_one he 0) (by omega)⟩
        · exact .inr ⟨by omega, needs_le (needs_snoc h2 he) (by omega)⟩
      · exact h q hq
    · exact h
def regOk3 (ops : Array Oper) (n : Nat) : Bool :=
  (List.range ops.size).all (fun i => ((ops[i]?).map fun o => o.after.all fun e => !Region.binds .any e || decide (e.on < i)).getD true) &&
  (List.range ops.size).all (fun i => (List.range i).all fun j => match dstAt ops i, dstAt ops j with | some d, some e => d != e || decide (n ≤ i) | _, _ => true) &&
  (List.range ops.size).all (fun i => decide (i < n) || (fun l => (List.range i).all fun j => l.contains j) (reach ops i i [i])) && decide (n ≤ ops.size)
theorem regOk_of {n : Nat} (h : regOk3 ops n = true) : regOk ops n = true := by
  simp only [regOk3, Bool.and_eq_true] at h
  obtain ⟨⟨⟨h1, h2⟩, h3⟩, h4⟩ := h
  simp only [regOk, Bool.and_eq_true]
  refine ⟨⟨⟨h1, h2⟩, ?_⟩, h4⟩
  have hd : ∀ i j, edgeB ops i j = true → j < i := by
    intro i j he
    obtain ⟨o, ho, e, hm, hb, rfl⟩ := edgeB_iff.1 he
    have hi : i < ops.size := (Array.getElem?_eq_some_iff.1 ho).1
    have h' := List.all_eq_true.1 h1 i (by simpa using hi)
    rw [ho] at h'
    simp only [Option.map_some, Option.getD_some, Array.all_eq_true_iff_forall_mem, Bool.or_eq_true, decide_eq_true_eq] at h'
    rcases h' e (by simpa using hm) with h'' | h''
    · simp [hb] at h''
    · exact h''
  simp only [List.all_eq_true, List.mem_range, Bool.or_eq_true, decide_eq_true_eq] at h3 ⊢
  intro i hi
  rcases h3 i hi with h' | h'
  · exact .inl h'
  · refine .inr fun j hj => ?_
    have hm : j ∈ reach ops i i [i] := by simpa using h' j hj
    rcases reach_sound hd i i [i] (fun l hl => .inl (by simpa using hl)) j hm with rfl | ⟨-, hn⟩
    · omega
    · simpa using needs_le hn (show i - j ≤ ops.size by omega)
end
end Go.Proofs.YtckcadhjpjjmjaaDoor
namespace Go.Proofs.YtckcadhjpjjmjaaDoor
open Go.RowKit
theorem mixed : Tryd.prog.follows .mixedOrders = true := by kernel_rfl
theorem needs_direct {ops : Array Oper} {i j : Nat} (h : ((ops[i]?).map fun o => o.after.toList.any fun e => Region.binds .any e && e.on == j) = some true) : (needs ops ops.size i).contains j = true := by
  cases ho : ops[i]? with
  | none => rw [ho] at h; cases h
  | some o =>
    rw [ho] at h
    simp only [Option.map_some, Option.some.injEq, List.any_eq_true, Bool.and_eq_true, beq_iff_eq] at h
    obtain ⟨e, he, h1, h2⟩ := h
    have hi : i < ops.size := (Array.getElem?_eq_some_iff.1 ho).1
    obtain ⟨f, hf⟩ : ∃ f, ops.size = f + 1 := ⟨ops.size - 1, by omega⟩
    rw [hf, needs, ho]
    simp only [List.contains_iff_mem, List.mem_flatMap, List.mem_filter]
    exact ⟨e, ⟨he, h1⟩, by simp [h2]⟩
end Go.Proofs.YtckcadhjpjjmjaaDoor
namespace Go.Proofs.YtckcadhjpjjmjaaDoor
open Go.RowKit
theorem txt_app2 (a b : List UInt8) : txt a ++ txt b = txt (a ++ b) := by
  apply ByteArray.ext
  rw [ByteArray.data_append]
  simp
theorem join_snoc (c : UInt8) (x : List UInt8) : ∀ l : List (List UInt8), l ≠ [] → Lib.join (l ++ [x]) [c] = Lib.join l [c] ++ c :: x
  | [], h => absurd rfl h
  | a :: r, _ => by
    rw [List.cons_append, Lib.join_cons, Lib.join_cons, Lib.joinTail, Lib.joinTail, List.map_append, List.flatten_append, ← List.append_assoc]
    simp
theorem join_take (c : UInt8) (l : List (List UInt8)) : ∀ k, (Lib.join (l.take k) [c]).length ≤ (Lib.join l [c]).length
  | 0 => Nat.zero_le _
  | k + 1 => by
    cases l with
    | nil => simp
    | cons a r =>
      rw [List.take_succ_cons, Lib.join_cons, Lib.join_cons, List.length_append, List.length_append]
      have : ∀ (r : List (List UInt8)) k, (Lib.joinTail [c] (r.take k)).length ≤ (Lib.joinTail [c] r).length := by
        intro r
        induction r with
        | nil => intro k; simp
        | cons b r ih =>
          intro k
          cases k with
          | zero => exact Nat.zero_le _
          | succ k =>
            have := ih k
            simp only [Lib.joinTail, List.take_succ_cons, List.map_cons, List.flatten_cons, List.length_append] at this ⊢
            omega
      have := this r k
      omega
set_option maxRecDepth 100000 in
set_option maxHeartbeats 1600000 in
theorem c_rfjoin (A : Option Addr) (n c : Nat) (l : List (List UInt8)) (ok : Nat → Prop) (w : World) (hR : kStr.Row ok w A n c (l.map txt)) (hj : (Lib.join l [44]).length ≤ 1000000) :
    Calls Tryd.prog 14 #[.slice A n c] w fun e w' => e = .returned (.string (txt (joinB geS l))) ∧ w' = w := by
  have hl : l.length = n := by rw [← hR.1, List.length_map]
  cases hb : riseB geS l with
  | false =>
    have HE : Hid (joinB geS l = []) := hide (by rw [joinB, hb]; rfl)
    have HB := hide hb
    have HR := hide hR
    clear hR hb
    go_enter Tryd.func14, Tryd.ntmps14
    go_wp2_with fail
    refine (c_rise l A n c ok w HR.out).mono ?_
    rintro e w1 ⟨rfl, rfl⟩
    rw [HB.out]
    go_wp2_with fail
    go_ret
    exact ⟨by rw [HE.out]; rfl, rfl⟩
  | true =>
    have hn32 : 1 ≤ n ∧ n ≤ 32 := by
      simp only [riseB, Bool.and_eq_true, decide_eq_true_eq] at hb
      omega
    obtain ⟨hn1, hn2⟩ := hn32
    have HE : Hid (joinB geS l = Lib.join l [44]) := hide (by rw [joinB, hb]; rfl)
    have HB := hide hb
    obtain ⟨x, hx⟩ : ∃ x, l[0]? = some x := ⟨_, List.getElem?_eq_getElem (by omega)⟩
    have hx2 : (l.map txt)[0]? = some (txt x) := by rw [List.getElem?_map, hx]; rfl
    obtain ⟨p, o, hix, hcx, -, -⟩ := row_str hR hx2
    have hix0 : ∀ wx : World, (Instr.indexAt 22 (.slice A n c) (.int .i64 0)).run Tryd.prog wx = .ok (.pointer (some ⟨p, o, none⟩)) wx := hix
    obtain ⟨B, hs1, hB⟩ := hR.from (P := Tryd.prog) Tryd.underlying22 (E := 9) str_info (k := 1) (by omega) .i64 1 rfl
    have H0 : Hid (Lib.join (l.take 1) [44] = x) := hide (by
      cases l with
      | nil => cases hx
      | cons a r =>
        have : a = x := by simpa using hx
        rw [this, List.take_succ_cons, List.take_zero, Lib.join_one])
    have HR := hide hR
    have HRB := hide hB
    have HL := hide hl
    have HJ := hide hj
    clear hR hb hB hl hj hx hx2 hix
    go_enter Tryd.func14, Tryd.ntmps14
    go_wp2_with fail
    refine (c_rise l A n c ok w HR.out).mono ?_
    rintro e w1 ⟨rfl, rfl⟩
    rw [HB.out]
    go_wp2_with fail
    go_loop [3, 15] (fun s i => ∃ (k : Nat) (q : List UInt8), k ≤ n - 1 ∧ i = .int .i64 (k : Int) ∧ s = .string (txt q) ∧ Hid (q = Lib.join (l.take (k + 1)) [44])) (fun _ i => n - 1 - (intOf i).toNat)
    case atStart => exact ⟨0, x, Nat.zero_le _, rfl, rfl, hide H0.out.symm⟩
    case round =>
      obtain ⟨k, q, hk, rfl, rfl, HT⟩ := hrel
      by_cases hlt : k < n - 1
      · obtain ⟨y, hy⟩ : ∃ y, l[k + 1]? = some y := ⟨_, List.getElem?_eq_getElem (by have := HL.out; omega)⟩
        have hy2 : ((l.map txt).drop 1)[k]? = some (txt y) := by rw [List.getElem?_drop, List.getElem?_map, Nat.add_comm, hy]; rfl
        obtain ⟨p2, o2, hiy, hcy, -, -⟩ := row_str HRB.out hy2
        have HQ : Hid (q ++ 44 :: y = Lib.join (l.take (k + 1 + 1)) [44]) := hide (by
          rw [List.take_add_one (i := k + 1), hy, HT.out]
          exact (join_snoc 44 y _ (by intro e; have h1 := congrArg List.length e; rw [List.length_take, List.length_nil] at h1; have h2 := HL.out; omega)).symm)
        have HQL : Hid ((q ++ 44 :: y).length ≤ 1000000) := hide (by rw [HQ.out]; exact Nat.le_trans (join_take 44 l _) HJ.out)
        have hs1y : ¬ 9223372036854775807 < 1 + y.length := by have := HQL.out; simp only [List.length_append, List.length_cons] at this; omega
        have hs2y : ¬ 9223372036854775807 < q.length + (1 + y.length) := by have := HQL.out; simp only [List.length_append, List.length_cons] at this; omega
        clear hy hy2
        go_wp2_with fail
        go_round
        case rel => exact ⟨k + 1, q ++ 44 :: y, by omega, by simp, by rw [show ({ data := #[44] } : ByteArray) = txt [44] from rfl, txt_app2, txt_app2]; rfl, HQ⟩
        case measure => simp [intOf]; omega
      · obtain rfl : k = n - 1 := by omega
        have HR9 : Hid (q = Lib.join l [44]) := hide (by rw [HT.out, List.take_of_length_le (by have := HL.out; omega)])
        go_wp2_with fail
        go_ret
        exact ⟨by rw [HE.out, ← HR9.out]; rfl, rfl⟩
set_option maxRecDepth 100000 in
set_option maxHeartbeats 1600000 in
theorem c_rfsame (A B : Option Addr) (n c m d : Nat) (xs ys : List ByteArray) (ok ok' : Nat → Prop) (w : World) (hR : kStr.Row ok w A n c xs) (hS : kStr.Row ok' w B m d ys) :
    Calls Tryd.prog 15 #[.slice A n c, .slice B m d] w fun e w' => e = .returned (.bool (decide (xs = ys))) ∧ Below w.heap.size w w' := by
  have hl := hR.1
  have hm := hS.1
  have hn63 : n ≤ 9223372036854775807 := Nat.le_trans hR.2.1 hR.2.2.1
  have hm63 : m ≤ 9223372036854775807 := Nat.le_trans hS.2.1 hS.2.2.1
  by_cases hnm : n = m
  · subst hnm
    have HL := hide hl
    have HM := hide hm
    have HR := hide hR
    have HS := hide hS
    clear hR hS hl hm
    go_enter Tryd.func15, Tryd.ntmps15
    go_wp2_with fail
    go_loopw [13] (fun i wr => ∃ k : Nat, k ≤ n ∧ i = .int .i64 (k : Int) ∧ Hid (xs.take k = ys.take k) ∧ Hid (Below w.heap.size w wr)) (fun i _ => n - (intOf i).toNat)
    case atStart => exact ⟨0, Nat.zero_le _, rfl, hide rfl, hide (Below.refl _ _)⟩
    case round =>
      obtain ⟨k, hk, rfl, HT, HB⟩ := hrel
      by_cases hlt : k < n
      · obtain ⟨x, hx⟩ : ∃ x, xs[k]? = some x := ⟨_, List.getElem?_eq_getElem (by have := HL.out; omega)⟩
        obtain ⟨y, hy⟩ : ∃ y, ys[k]? = some y := ⟨_, List.getElem?_eq_getElem (by have := HM.out; omega)⟩
        obtain ⟨p, o, hix, hcx, -, -⟩ := row_str (HR.out.below HB.out) hx
        obtain ⟨p2, o2, hiy, hcy, -, -⟩ := row_str (HS.out.below HB.out) hy
        have HIX := hide hix
        have HIY := hide hiy
        have HCX := hide hcx
        have HCY := hide hcy
        have HEQ : Hid ((!(x.toList == y.toList)) = decide (¬ x = y)) := hide (by
          rw [Bool.eq_iff_iff]
          simp only [Bool.not_eq_true', beq_eq_false_iff_ne, decide_eq_true_eq, ne_eq]
          rw [ByteArray.toList_eq, ByteArray.toList_eq]
          exact not_congr ⟨fun h => by rw [← txt_byt x, ← txt_byt y]; exact congrArg txt h, fun h => by rw [h]⟩)
        have HNX : Hid (¬ x = y → decide (xs = ys) = false) := hide (fun h => decide_eq_false (fun e => h (by rw [e, hy] at hx; exact (Option.some.inj hx).symm)))
        have HTX : Hid (x = y → xs.take (k + 1) = ys.take (k + 1)) := hide (fun h => by rw [List.take_add_one, List.take_add_one, HT.out, hx, hy, h])
        clear hx hy hix hiy hcx hcy
        go_wp2_with fail
        refine wp_region_ext mixed 9 (fun i v w' => match i with
          | 0 => v = .slice A n c
          | 1 => v = .int .i64 (k : Int)
          | 2 => v = .pointer (some ⟨p, o, none⟩)
          | 3 => v = .string x
          | 4 => v = .slice B n d
          | 5 => v = .int .i64 (k : Int)
          | 6 => v = .pointer (some ⟨p2, o2, none⟩)
          | 7 => v = .string y
          | _ => v = .bool !(x.toList == y.toList)
          ) (regOk_of (by kernel_rfl)) rfl ?_ ?_ ?_
        · intro i v w1 w2 h1 h2
          split at h2 <;> exact h2
        · refine ⟨fun a w2 hle hd hf hs K hK => ?_, fun a w2 hle hd hf hs K hK => ?_, fun a w2 hle hd hf hs K hK => ?_, fun a w2 hle hd hf hs K hK => ?_, fun a w2 hle hd hf hs K hK => ?_, fun a w2 hle hd hf hs K hK => ?_, fun a w2 hle hd hf hs K hK => ?_, fun a w2 hle hd hf hs K hK => ?_, fun a w2 hle hd hf hs K hK => ?_, trivial⟩
          all_goals clear hd
          · -- 16 := Op.move t0
            have e0 := hf 0 rfl; simp [Act.eval] at e0
            go_simp; exact hK _ _ (Ext.refl _) rfl
          · -- 17 := Op.move t5
            have e5 := hf 5 rfl; simp [Act.eval] at e5
            go_simp; exact hK _ _ (Ext.refl _) rfl
          · -- 18 := Op.indexAddr 22 t16 t17
            have e16 := hs 0 16 (needs_direct (by kernel_rfl)) rfl; have e17 := hs 1 17 (needs_direct (by kernel_rfl)) rfl; simp [Act.eval] at e16 e17
            have hix := HIX.out
            go_simp; exact hK _ _ (Ext.refl _) rfl
          · -- 19 := Op.load 9 t18
            have e18 := hs 2 18 (needs_direct (by kernel_rfl)) rfl; simp [Act.eval] at e18
            have hq := hle.cell HCX.out
            go_simp; exact hK _ _ (Ext.refl _) rfl
          · -- 20 := Op.move t1
            have e1 := hf 1 rfl; simp [Act.eval] at e1
            go_simp; exact hK _ _ (Ext.refl _) rfl
          · -- 21 := Op.move t5
            have e5 := hf 5 rfl; simp [Act.eval] at e5
            go_simp; exact hK _ _ (Ext.refl _) rfl
          · -- 22 := Op.indexAddr 22 t20 t21
            have e20 := hs 4 20 (needs_direct (by kernel_rfl)) rfl; have e21 := hs 5 21 (needs_direct (by kernel_rfl)) rfl; simp [Act.eval] at e20 e21
            have hiy := HIY.out
            go_simp; exact hK _ _ (Ext.refl _) rfl
          · -- 23 := Op.load 9 t22
            have e22 := hs 6 22 (needs_direct (by kernel_rfl)) rfl; simp [Act.eval] at e22
            have hq := hle.cell HCY.out
            go_simp; exact hK _ _ (Ext.refl _) rfl
          · -- 24 := Op.binOp BinOp.neq 9 t19 t23 9
            have e19 := hs 3 19 (needs_direct (by kernel_rfl)) rfl; have e23 := hs 7 23 (needs_direct (by kernel_rfl)) rfl; simp [Act.eval] at e19 e23
            go_simp; exact hK _ _ (Ext.refl _) rfl
        intro vs w8 hle hs
        have v8 := hs 8 (by omega) rfl
        simp only at v8
        clear hs
        rw [HEQ.out] at v8
        have HB8 := hide (HB.out.trans (hle.mono HB.out.size))
        clear hle
        simp only [putN, dstAt]
        by_cases hxy : x = y
        · have HT2 := hide (HTX.out hxy)
          rw [decide_eq_false (not_not_intro hxy)] at v8
          clear hxy
          go_simp
          go_wp2_with fail
          go_roundw
          case rel => exact ⟨k + 1, by omega, by simp, HT2, HB8⟩
          case measure => simp [intOf]; omega
        · have HE := hide (HNX.out hxy)
          rw [decide_eq_true hxy] at v8
          clear hxy
          go_simp
          go_wp2_with fail
          go_ret
          exact ⟨by rw [HE.out]; rfl, HB8.out⟩
      · obtain rfl : k = n := by omega
        have HE : Hid (decide (xs = ys) = true) := hide (decide_eq_true (by
          have := HT.out
          rwa [List.take_of_length_le (Nat.le_of_eq HL.out), List.take_of_length_le (Nat.le_of_eq HM.out)] at this))
        go_wp2_with fail
        go_ret
        exact ⟨by rw [HE.out]; rfl, HB.out⟩
  · have hnm' : ¬ (n : Int) = (m : Int) := by omega
    have HE : Hid (decide (xs = ys) = false) := hide (decide_eq_false (fun e => hnm (by rw [← hl, ← hm, e])))
    clear hR hS hl hm
    go_enter Tryd.func15, Tryd.ntmps15
    go_wp2_with fail
    go_ret
    exact ⟨by rw [HE.out]; rfl, Below.refl _ _⟩
end Go.Proofs.YtckcadhjpjjmjaaDoor
namespace Go.Proofs.YtckcadhjpjjmjaaDoor
open Go.RowKit Go.Sort
theorem holds_zero0 (w : World) (T : TypeId) (nd : Nat) (hs : nd ≤ 24) : Holds (fun (b : UInt8) => Value.int .u8 (b.toNat : Int)) (w.alloc (.cells Lib.zeros24 T)) w.heap.size 0 (Array.replicate nd (0 : UInt8)) := fun j hj => by
  have hj' : j < nd := by simpa using hj
  refine ⟨?_, World.frozen?_alloc_new _ _ _ _⟩
  rw [World.cell?_alloc_new, Lib.zeros24_at _ (by omega), getElem!_pos _ j hj]
  simp
set_option maxRecDepth 100000 in
set_option maxHeartbeats 1600000 in
theorem c_ifmtuint (u : Nat) (w : World) (hu64 : u < 18446744073709551616) (htab : Lib.TabIs Tryd.prog w "internal/strconv.uint64pow10" .u64 Lib.pow10Tab) :
    Calls Tryd.prog 92 #[.int .u64 (u : Int), .int .i64 10] w fun e w' => e = .returned (.string (txt (Lib.decDigits u))) ∧ Below w.heap.size w w' := by
  by_cases hs : u < 100
  · have hs' : (u : Int) < 100 := by omega
    go_enter Tryd.func92, Tryd.ntmps92
    go_wp2_with fail
    refine (Tryd.internal_strconv_small u hs w).mono ?_
    rintro e w1 ⟨rfl, rfl⟩
    go_wp2_with fail
    go_ret
    exact ⟨rfl, Below.refl _ _⟩
  · have hs' : ¬ (u : Int) < 100 := by omega
    have hu1 : 1 ≤ u := by omega
    have hnd20 : Lib.nDigits u ≤ 20 := by rw [← Lib.decDigits_length]; exact dec_len hu64
    have hal : Tryd.prog.arrayLen 112 = 24 := by kernel_rfl
    have hsl1 : ∀ W, (Instr.sliceAt 112 (.pointer (some ⟨w.heap.size, 0, none⟩)) none (some (.int .i64 (Lib.nDigits u : Int))) none).run Tryd.prog W = .ok (.slice (some ⟨w.heap.size, 0, none⟩) (Lib.nDigits u) 24) W := fun W => by
      rw [run_sliceAt_array_h W 112 ⟨w.heap.size, 0, none⟩ (by simp [Program.arrayLen, Program.elem, Tryd.underlying112]) .i64 (Lib.nDigits u : Int) (by omega) (by rw [hal]; omega)]
      go_simp
    have hH0 := holds_zero0 w 112 (Lib.nDigits u) (by omega)
    have hfmt := Tryd.internal_strconv_formatBase10 w.heap.size 0 24 u (Array.replicate (Lib.nDigits u) 0) (w.alloc (.cells Lib.zeros24 112)) hH0 (by rw [Array.size_replicate]; exact Lib.lt_pow_nDigits u) hu64 (by rw [Array.size_replicate]; omega)
    rw [Array.size_replicate] at hfmt
    have HH0 := hide hH0
    have HT := hide (Lib.tabIs_alloc htab (.cells Lib.zeros24 112))
    have HF := hide hfmt
    clear hH0 hal hfmt htab
    go_enter Tryd.func92, Tryd.ntmps92
    go_wp2_with fail
    refine (Tryd.internal_strconv_numDigits u hu1 hu64 _ HT.out).mono ?_
    rintro e w1 ⟨rfl, rfl⟩
    go_wp2_with fail
    refine HF.out.mono ?_
    rintro e w2 ⟨rfl, k, v', dk, rfl, hF⟩
    have hcv : (convert 71 9 (.slice (some ⟨w.heap.size, 0, none⟩) (Lib.nDigits u) 24)).run Tryd.prog ((putRow (fun (b : UInt8) => Value.int .u8 (b.toNat : Int)) (w.alloc (.cells Lib.zeros24 112)) w.heap.size 0 dk).drewN k) = .ok (.string (txt (Lib.decDigits u))) ((putRow (fun (b : UInt8) => Value.int .u8 (b.toNat : Int)) (w.alloc (.cells Lib.zeros24 112)) w.heap.size 0 dk).drewN k) := by
      have h := run_convert_bytes_back (P := Tryd.prog) ((putRow (fun (b : UInt8) => Value.int .u8 (b.toNat : Int)) (w.alloc (.cells Lib.zeros24 112)) w.heap.size 0 dk).drewN k) 71 9 5 ⟨w.heap.size, 0, none⟩ 24 (Lib.decDigits u) Tryd.underlying71 Tryd.underlying5 Tryd.underlying9 (fun j hj => by
        rw [Lib.row_is_numeral hF j hj, Lib.add_plain, World.cell?_drewN]
        exact cell?_putRow (fun (b : UInt8) => Value.int .u8 (b.toNat : Int)) _ w.heap.size 0 _ dk HH0.out (by rw [hF.size, Array.size_replicate]) j (by rw [hF.size]; rw [Lib.decDigits_length] at hj; exact hj))
      rw [Lib.decDigits_length] at h
      exact h
    have HB : Hid (Below w.heap.size w ((putRow (fun (b : UInt8) => Value.int .u8 (b.toNat : Int)) (w.alloc (.cells Lib.zeros24 112)) w.heap.size 0 dk).drewN k)) := hide (by
      have hfin : ∃ os, (putRow (fun (b : UInt8) => Value.int .u8 (b.toNat : Int)) (w.alloc (.cells Lib.zeros24 112)) w.heap.size 0 dk).drewN k = grow (w.drewN k) os := by
        rw [alloc_eq_grow]
        obtain ⟨os', _, e⟩ := putRow_grow_new (fun (b : UInt8) => Value.int .u8 (b.toNat : Int)) w #[.cells Lib.zeros24 112] w.heap.size 0 dk (Nat.le_refl _)
        exact ⟨os', by rw [e]; rfl⟩
      obtain ⟨os, e⟩ := hfin
      rw [e]
      exact below_grown_sl _ w k os (Nat.le_refl _))
    go_wp2_with fail
    go_ret
    exact ⟨rfl, HB.out⟩
theorem c_fmtuint (u : Nat) (w : World) (hu64 : u < 18446744073709551616) (htab : Lib.TabIs Tryd.prog w "internal/strconv.uint64pow10" .u64 Lib.pow10Tab) :
    Calls Tryd.prog 64 #[.int .u64 (u : Int), .int .i64 10] w fun e w' => e = .returned (.string (txt (Lib.decDigits u))) ∧ Below w.heap.size w w' := by
  have HC := hide (c_ifmtuint u w hu64 htab)
  clear htab
  go_enter Tryd.func64, Tryd.ntmps64
  go_wp2_with fail
  refine HC.out.mono ?_
  rintro e w1 ⟨rfl, b1⟩
  go_wp2_with fail
  go_ret
  exact ⟨rfl, b1⟩
end Go.Proofs.YtckcadhjpjjmjaaDoor
namespace Go.Proofs.YtckcadhjpjjmjaaDoor
open Go.RowKit
theorem one_row8 {w : World} {g : Nat} {b : UInt8} {E : TypeId} {fr : Nat × Nat} (hg : w.heap[g]? = some (.cells #[bv b] E fr)) : kU8.Row (fun _ => True) w (some ⟨g, 0, none⟩) 1 1 [b] := by
  refine ⟨rfl, Nat.le_refl _, by simp [maxLen], fun _ => ⟨g, 0, rfl, trivial, (Array.getElem?_eq_some_iff.1 hg).1, fun i y hy => ?_⟩⟩
  have hi : i = 0 := by have := (List.getElem?_eq_some_iff.1 hy).1; simp at this; omega
  subst hi
  obtain rfl : b = y := by simpa using hy
  refine ⟨[bv b], ⟨rfl, trivial⟩, fun j u hu => ?_⟩
  rw [cell_of_row _ _ _ _ _ _ hg, ← Array.getElem?_toList]
  simpa using hu
set_option maxRecDepth 100000 in
set_option maxHeartbeats 1600000 in
theorem c_digits : ∀ (u : Nat) (w : World), u < 18446744073709551616 → Calls Tryd.prog 40 #[.int .u64 (u : Int)] w fun e w' => e = .returned (.string (txt (Lib.decDigits u))) ∧ Below w.heap.size w w' := by
  intro u
  induction u using Nat.strongRecOn with
  | _ u ih =>
    intro w hu
    by_cases h : u < 10
    · have h' : (u : Int) < 10 := by omega
      have HE : Hid (Lib.decDigits u = [UInt8.ofNat (48 + u)]) := hide (dec_lt h)
      obtain ⟨y, hy⟩ : ∃ y, y = UInt8.ofNat (48 + u) := ⟨_, rfl⟩
      have hyn : y.toNat = 48 + u := by rw [hy, digit_of h]
      have e8 : Value.int .u8 (48 + (u : Int)) = bv y := by show _ = Value.int .u8 (y.toNat : Int); rw [hyn]; rfl
      have hq := row_string (P := Tryd.prog) Tryd.underlying71 Tryd.underlying5 Tryd.underlying9 (one_row8 (E := 5) (heap_alloc_new w (.cells #[bv y] 5)))
      rw [← e8] at hq
      rw [← hy] at HE
      clear hy hyn
      clear ih e8
      go_enter Tryd.func40, Tryd.ntmps40
      go_wp2_with fail
      go_ret
      exact ⟨by rw [HE.out]; rfl, (Below.refl _ _).alloc (Nat.le_refl _) _⟩
    · have h' : ¬ (u : Int) < 10 := by omega
      have HE : Hid (Lib.decDigits u = Lib.decDigits (u / 10) ++ [UInt8.ofNat (48 + u % 10)]) := hide (dec_ge h)
      have IH := hide ih
      clear ih
      go_enter Tryd.func40, Tryd.ntmps40
      have e10 : Hid ((u : Int) / 10 = ((u / 10 : Nat) : Int)) := hide (by omega)
      have e11 : Hid ((u : Int) % 10 = ((u % 10 : Nat) : Int)) := hide (by omega)
      go_wp2_with fail
      rw [e10.out]
      refine (IH.out (u / 10) (by omega) w (by omega)).mono ?_
      rintro e w1 ⟨rfl, b1⟩
      have hp := dec_len (u := u / 10) (by omega)
      have hq := dec_len (u := u % 10) (by omega)
      have HD : Hid (Lib.decDigits (u % 10) = [UInt8.ofNat (48 + u % 10)]) := hide (dec_lt (by omega))
      rw [← HD.out] at HE
      obtain ⟨p, hp0⟩ : ∃ p, Lib.decDigits (u / 10) = p := ⟨_, rfl⟩
      rw [hp0] at hp HE ⊢
      have HB1 := hide b1
      clear b1 hp0
      go_wp2_with fail
      rw [e11.out]
      refine (IH.out (u % 10) (by omega) w1 (by omega)).mono ?_
      rintro e w2 ⟨rfl, b2⟩
      obtain ⟨q, hq0⟩ : ∃ q, Lib.decDigits (u % 10) = q := ⟨_, rfl⟩
      rw [hq0] at hq HE ⊢
      have HB2 := hide (HB1.out.trans (b2.mono HB1.out.size))
      have hnz : ¬ 9223372036854775807 < p.length + q.length := by omega
      clear b2 hq0 HD IH e10 e11
      go_wp2_with fail
      go_ret
      exact ⟨by rw [HE.out, ← txt_app2]; rfl, HB2.out⟩
end Go.Proofs.YtckcadhjpjjmjaaDoor
namespace Go.Proofs.YtckcadhjpjjmjaaDoor
open Go.RowKit
/-- What the reading of numbers wants of the world: the library's table, its two errors. -/
def NumAt (w : World) : Prop :=
  Lib.TabIs Tryd.prog w "internal/strconv.uint64pow10" .u64 Lib.pow10Tab ∧
  (∃ ev, w.cell? ⟨2, 0, none⟩ = some ev ∧ (ev = .nilIface ∨ ∃ te pe, ev = .iface te pe)) ∧
  (∃ ev, w.cell? ⟨3, 0, none⟩ = some ev ∧ (ev = .nilIface ∨ ∃ te pe, ev = .iface te pe))
theorem tab_below {w w' : World} {name : String} {k : IntKind} {zs : List Int} (h : Lib.TabIs Tryd.prog w name k zs) (hb : Below w.heap.size w w') : Lib.TabIs Tryd.prog w' name k zs := by
  unfold Lib.TabIs World.var? at *
  cases hg : Tryd.prog.globalNamed name with
  | none => simp [hg] at h
  | some g =>
    simp only [hg, Option.bind_some] at h ⊢
    have hlt : g < w.heap.size := by
      rcases Nat.lt_or_ge g w.heap.size with h' | h'
      · exact h'
      · rw [Array.getElem?_eq_none h'] at h; simp at h
    rw [hb.block g hlt]
    exact h
theorem NumAt.below {w w' : World} (h : NumAt w) (hb : Below w.heap.size w w') : NumAt w' := by
  obtain ⟨h1, ⟨ev, h2, h3⟩, ⟨ew, h4, h5⟩⟩ := h
  exact ⟨tab_below h1 hb, ⟨ev, (hb.cell (p := ⟨2, 0, none⟩) (World.block_lt_of_cell? _ _ h2)).trans h2, h3⟩, ⟨ew, (hb.cell (p := ⟨3, 0, none⟩) (World.block_lt_of_cell? _ _ h4)).trans h4, h5⟩⟩
theorem wrap_step (M c : Nat) (hM : M = 18446744073709551616) (hc : c = 18446744073709551568) (r : Nat) (b : UInt8) : IntKind.u64.wrap (IntKind.u64.wrap (IntKind.u64.wrap ((r : Int) * 10) + (b.toNat : Int)) - 48) = ((stepG M c r b : Nat) : Int) := by
  rw [stepG_eq, IntKind.wrap_u64, IntKind.wrap_u64, IntKind.wrap_u64]
  subst hM hc
  omega
def numV (o : Option Nat) : Value := .tuple #[.int .u64 ((o.getD 0 : Nat) : Int), .bool o.isSome]
set_option maxRecDepth 100000 in
set_option maxHeartbeats 1600000 in
theorem c_lnumber (x : List UInt8) (w : World) (hx : x.length ≤ 1000000) (hN : NumAt w) :
    Calls Tryd.prog 35 #[.string (txt x)] w fun e w' => e = .returned (numV (numB x)) ∧ Below w.heap.size w w' := by
  have hsz : (txt x).size ≤ 1000000 := by rw [txt_size]; exact hx
  obtain ⟨r, hr⟩ : ∃ r, Lib.parseUintB 64 x = r := ⟨_, rfl⟩
  have hr2 : Lib.parseUintB 64 (txt x).data.toList = r := by rw [← hr]
  rcases r with u | _ | _
  · have HB : Hid (numB x = if Lib.decDigits u = x then some u else none) := hide (by rw [numB, hr])
    have hu : u < 18446744073709551616 := by
      unfold Lib.parseUintB at hr
      split at hr
      · cases hr
      · have := parse_lt (2 ^ 64 - 1) x 0 u (by decide) hr
        omega
    have hP := Tryd.strconv_ParseUint_10_at64_ok (txt x) (by omega) u hr2 w
    have HN := hide hN
    have HP := hide hP
    clear hr hr2 hN hP
    go_enter Tryd.func35, Tryd.ntmps35
    go_wp2_with fail
    refine HP.out.mono ?_
    rintro e w1 ⟨rfl, hw1⟩
    have b1 : Below w.heap.size w w1 := by
      rcases hw1 with rfl | rfl
      · exact Below.refl _ _
      · exact bytesWorld_below _ _ _
    have HB1 := hide b1
    have HN1 := hide (HN.out.below b1)
    clear b1 hw1 HP
    go_wp2_with fail
    refine (c_fmtuint u w1 hu HN1.out.1).mono ?_
    rintro e w2 ⟨rfl, b2⟩
    have HB2 := hide (HB1.out.trans (b2.mono HB1.out.size))
    obtain ⟨D, hD⟩ : ∃ D, Lib.decDigits u = D := ⟨_, rfl⟩
    rw [hD] at HB ⊢
    clear b2 hD
    by_cases hDx : D = x
    · have HE : Hid (numB x = some u) := hide (by rw [HB.out, if_pos hDx])
      subst hDx
      go_wp2_with fail
      exact bodyPost_ret (v := .tuple #[.int .u64 (u : Int), .bool true]) (by simp [results, Tryd.results35, go_sem]) rfl ⟨by rw [HE.out]; rfl, HB2.out⟩
    · have HE : Hid (numB x = none) := hide (by rw [HB.out, if_neg hDx])
      have hbq : (D == x) = false := beq_eq_false_iff_ne.2 hDx
      go_wp2_with fail
      exact bodyPost_ret (v := .tuple #[.int .u64 0, .bool false]) (by simp [results, Tryd.results35, go_sem]) rfl ⟨by rw [HE.out]; rfl, HB2.out⟩
  · have HE : Hid (numB x = none) := hide (by rw [numB, hr])
    obtain ⟨ev, hv, hev⟩ := hN.2.1
    have HP : Hid (Calls Tryd.prog 63 #[.string (txt x), .int .i64 10, .int .i64 64] w fun e w' => ∃ N, e = .returned (.tuple #[.int .u64 0, .iface 109 (.pointer (some ⟨N, 0, none⟩))]) ∧ Below w.heap.size w w') := hide ((Any.strconv_ParseUint_10_at64_syntax Tryd.laysPu14 (txt x) (by omega) hr2 ev w hv hev).mono fun e w' ⟨N, h1, _, _, h4⟩ => ⟨N, h1, h4⟩)
    clear hr hr2 hN hv hev
    go_enter Tryd.func35, Tryd.ntmps35
    go_wp2_with fail
    refine HP.out.mono ?_
    rintro e w1 ⟨N, rfl, b1⟩
    have HB1 := hide b1
    clear b1 HP
    go_wp2_with fail
    exact bodyPost_ret (v := .tuple #[.int .u64 0, .bool false]) (by simp [results, Tryd.results35, go_sem]) rfl ⟨by rw [HE.out]; rfl, HB1.out⟩
  · have HE : Hid (numB x = none) := hide (by rw [numB, hr])
    obtain ⟨ev, hv, hev⟩ := hN.2.2
    have HP := hide (Tryd.strconv_ParseUint_10_at64_range (txt x) (by omega) hr2 ev w hv hev)
    clear hr hr2 hN hv hev
    go_enter Tryd.func35, Tryd.ntmps35
    go_wp2_with fail
    refine HP.out.mono ?_
    rintro e w1 ⟨N, rfl, -, -, b1⟩
    have HB1 := hide b1
    clear b1 HP
    go_wp2_with fail
    exact bodyPost_ret (v := .tuple #[.int .u64 0, .bool false]) (by simp [results, Tryd.results35, go_sem]) rfl ⟨by rw [HE.out]; rfl, HB1.out⟩
set_option maxRecDepth 100000 in
set_option maxHeartbeats 1600000 in
theorem c_rnumber (x : List UInt8) (w : World) (hx : x.length ≤ 1000000) :
    Calls Tryd.prog 36 #[.string (txt x)] w fun e w' => e = .returned (numV (numB x)) ∧ Below w.heap.size w w' := by
  obtain ⟨M, hM⟩ : ∃ M, M = 18446744073709551616 := ⟨_, rfl⟩
  obtain ⟨c, hc⟩ : ∃ c, c = 18446744073709551568 := ⟨_, rfl⟩
  have hNR := num_ref M c hM hc x
  have hsz : (txt x).size = x.length := txt_size x
  obtain ⟨n, hn⟩ : ∃ n, x.length = n := ⟨_, rfl⟩
  rw [hn] at hsz hx hNR
  have HL := hide hn
  have HM := hide hM
  have HC := hide hc
  clear hn hM hc
  by_cases h20 : 20 < n
  · have h20' : (20 : Int) < n := by omega
    have HE : Hid (numB x = none) := hide (by rw [hNR, if_pos h20])
    clear hNR
    go_enter Tryd.func36, Tryd.ntmps36
    go_wp2_with fail
    exact bodyPost_ret (v := .tuple #[.int .u64 0, .bool false]) (by simp [results, Tryd.results36, go_sem]) rfl ⟨by rw [HE.out]; rfl, Below.refl _ _⟩
  · have h20' : ¬ (20 : Int) < n := by omega
    have HNR := hide hNR
    clear hNR
    go_enter Tryd.func36, Tryd.ntmps36
    go_wp2_with fail
    go_loop [4, 5] (fun q i => ∃ (k r : Nat), k ≤ n ∧ i = .int .i64 (k : Int) ∧ q = .int .u64 (r : Int) ∧ r < 18446744073709551616 ∧ Hid (r = foldG M c 0 (x.take k)) ∧ Hid (oddD (x.take k) = false)) (fun _ i => n - (intOf i).toNat)
    case atStart => exact ⟨0, 0, Nat.zero_le _, rfl, rfl, by decide, hide rfl, hide rfl⟩
    case round =>
      obtain ⟨k, r, hk, rfl, rfl, hr, HF, HT⟩ := hrel
      by_cases hlt : k < n
      · obtain ⟨y, hy⟩ : ∃ y, x[k]? = some y := ⟨_, List.getElem?_eq_getElem (by have := HL.out; omega)⟩
        have hix := txt_byte (P := Tryd.prog) Tryd.underlying9 hy .i64
        have hT2 : oddD (x.take (k + 1)) = (decide (y.toNat < 48) || decide (57 < y.toNat)) := by
          have h := HT.out
          unfold oddD at h ⊢
          rw [List.take_add_one, hy, List.any_append, h, Bool.false_or]
          simp
        have HF2 : Hid (stepG M c r y = foldG M c 0 (x.take (k + 1))) := hide (by
          rw [List.take_add_one, hy, HF.out]
          exact (foldG_snoc M c 0 _ y).symm)
        have hmem : y ∈ x := List.mem_of_getElem? hy
        clear hy
        by_cases ha : y.toNat < 48
        · have HE : Hid (numB x = none) := hide (by rw [HNR.out, if_neg h20, if_pos (show oddD x = true from List.any_eq_true.2 ⟨y, hmem, by simp; omega⟩)])
          have ha' : (y.toNat : Int) < 48 := by omega
          clear hT2
          go_wp2_with fail
          exact bodyPost_ret (v := .tuple #[.int .u64 0, .bool false]) (by simp [results, Tryd.results36, go_sem]) rfl ⟨by rw [HE.out]; rfl, Below.refl _ _⟩
        · have ha' : ¬ (y.toNat : Int) < 48 := by omega
          by_cases hz : 57 < y.toNat
          · have HE : Hid (numB x = none) := hide (by rw [HNR.out, if_neg h20, if_pos (show oddD x = true from List.any_eq_true.2 ⟨y, hmem, by simp; omega⟩)])
            have hz' : (57 : Int) < (y.toNat : Int) := by omega
            clear hT2
            go_wp2_with fail
            exact bodyPost_ret (v := .tuple #[.int .u64 0, .bool false]) (by simp [results, Tryd.results36, go_sem]) rfl ⟨by rw [HE.out]; rfl, Below.refl _ _⟩
          · have hz' : ¬ (57 : Int) < (y.toNat : Int) := by omega
            have HT2 : Hid (oddD (x.take (k + 1)) = false) := hide (by rw [hT2, decide_eq_false ha, decide_eq_false hz]; rfl)
            clear hT2
            go_wp2_with fail
            go_round
            case rel => exact ⟨k + 1, stepG M c r y, by omega, by simp, congrArg (Value.int .u64) (wrap_step M c HM.out HC.out r y), by have := stepG_lt M c r y (by have := HM.out; omega); have := HM.out; omega, HF2, HT2⟩
            case measure => simp [intOf]; omega
      · obtain rfl : k = n := by omega
        have HO : Hid (numB x = if Lib.decDigits r = x then some r else none) := hide (by
          have h1 := HF.out
          have h2 := HT.out
          rw [List.take_of_length_le (Nat.le_of_eq HL.out)] at h1 h2
          rw [HNR.out, if_neg h20, h2, h1]
          rfl)
        go_wp2_with fail
        refine (c_digits r w hr).mono ?_
        rintro e w2 ⟨rfl, b2⟩
        have HB2 := hide b2
        obtain ⟨D, hD⟩ : ∃ D, Lib.decDigits r = D := ⟨_, rfl⟩
        rw [hD] at HO ⊢
        clear b2 hD
        by_cases hDx : D = x
        · have HE : Hid (numB x = some r) := hide (by rw [HO.out, if_pos hDx])
          subst hDx
          go_wp2_with fail
          exact bodyPost_ret (v := .tuple #[.int .u64 (r : Int), .bool true]) (by simp [results, Tryd.results36, go_sem]) rfl ⟨by rw [HE.out]; rfl, HB2.out⟩
        · have HE : Hid (numB x = none) := hide (by rw [HO.out, if_neg hDx])
          have hbq : (D == x) = false := beq_eq_false_iff_ne.2 hDx
          go_wp2_with fail
          exact bodyPost_ret (v := .tuple #[.int .u64 0, .bool false]) (by simp [results, Tryd.results36, go_sem]) rfl ⟨by rw [HE.out]; rfl, HB2.out⟩
end Go.Proofs.YtckcadhjpjjmjaaDoor
namespace Go.Proofs.YtckcadhjpjjmjaaDoor
open Go.RowKit
theorem dec_len_le : ∀ (n u : Nat), u < 10 ^ n → 1 ≤ n → (Lib.decDigits u).length ≤ n := by
  intro n
  induction n with
  | zero => intro u _ h; omega
  | succ n ih =>
    intro u hu _
    by_cases h : u < 10
    · rw [dec_lt h]; simp
    · rw [dec_ge h, List.length_append, List.length_singleton]
      have hn : 1 ≤ n := by
        rcases Nat.eq_zero_or_pos n with h0 | h0
        · subst h0; simp at hu; omega
        · exact h0
      have := ih (u / 10) (by rw [Nat.pow_succ] at hu; omega) hn
      omega
/-- A sign as a small letter; what it is worth as a digit. -/
def lowU (b : UInt8) : UInt8 := b ||| 32
def digU (b : UInt8) : Option Nat := if 48 ≤ b.toNat ∧ b.toNat ≤ 57 then some (b.toNat - 48) else if 97 ≤ (lowU b).toNat ∧ (lowU b).toNat ≤ 122 then some ((lowU b).toNat - 87) else none
/-- What ParseUint makes of signs: the number, and 0, or 1 (too great), or 2 (no digit). -/
def goU (base M : Nat) : Nat → List UInt8 → Nat × Nat
  | n, [] => (n, 0)
  | n, b :: l => match digU b with
    | none => (0, 2)
    | some d => if base ≤ d then (0, 2) else if M < n * base + d then (M, 1) else goU base M (n * base + d) l
def puU (base M : Nat) (x : List UInt8) : Nat × Nat := if x = [] then (0, 2) else goU base M 0 x
theorem goU_le (base M : Nat) : ∀ (l : List UInt8) (n : Nat), n ≤ M → (goU base M n l).1 ≤ M
  | [], n, h => h
  | b :: l, n, h => by
    unfold goU
    split
    · exact Nat.zero_le _
    · split
      · exact Nat.zero_le _
      · split
        · exact Nat.le_refl _
        · exact goU_le base M l _ (by omega)
theorem puU_le (base M : Nat) (x : List UInt8) : (puU base M x).1 ≤ M := by
  unfold puU
  split
  · exact Nat.zero_le _
  · exact goU_le base M x 0 (Nat.zero_le _)
theorem digU_dec {d : Nat} (h : d < 10) : digU (UInt8.ofNat (48 + d)) = some d := by
  rw [digU, digit_of h, if_pos (by omega)]
  congr 1
  omega
theorem goU_dec (M : Nat) : ∀ (u : Nat) (t : List UInt8), u ≤ M → goU 10 M 0 (Lib.decDigits u ++ t) = goU 10 M u t := by
  intro u
  induction u using Nat.strongRecOn with
  | _ u ih =>
    intro t hu
    by_cases h : u < 10
    · rw [dec_lt h, List.singleton_append, goU, digU_dec h]
      show (if 10 ≤ u then _ else if M < 0 * 10 + u then _ else _) = _
      rw [if_neg (by omega), if_neg (by omega), Nat.zero_mul, Nat.zero_add]
    · rw [dec_ge h, List.append_assoc, ih (u / 10) (by omega) _ (by omega), List.singleton_append, goU, digU_dec (d := u % 10) (by omega)]
      show (if 10 ≤ u % 10 then _ else if M < u / 10 * 10 + u % 10 then _ else _) = _
      rw [if_neg (by omega), if_neg (by omega)]
      congr 1
      omega
theorem puU_dec {M u : Nat} (h : u ≤ M) : (puU 10 M (Lib.decDigits u)).1 = u := by
  have := goU_dec M u [] h
  rw [List.append_nil] at this
  rw [puU, if_neg (dec_ne u), this]; rfl
/-- What Atoi makes of a text. -/
def atoiV (l : List UInt8) : Int := match Lib.atoiAll l with
  | .ok v => v
  | .range => Lib.atoiSat l
  | _ => 0
theorem parse10_dec : ∀ (u : Nat) (t : List UInt8), u < 1000000 → Lib.parseUint10 0 (Lib.decDigits u ++ t) = Lib.parseUint10 u t := by
  intro u
  induction u using Nat.strongRecOn with
  | _ u ih =>
    intro t hu
    by_cases h : u < 10
    · rw [dec_lt h, List.singleton_append, Lib.parseUint10, digit_of h, if_pos (by omega), if_neg (by omega), if_neg (by omega)]
      congr 1
      omega
    · rw [dec_ge h, List.append_assoc, ih (u / 10) (by omega) _ (by omega), List.singleton_append, Lib.parseUint10, digit_of (by omega), if_pos (by omega), if_neg (by omega), if_neg (by omega)]
      congr 1
      omega
theorem mag_dec {u : Nat} (h : u < 1000000) : Lib.parseMag (Lib.decDigits u) = .ok u := by
  have := parse10_dec u [] h
  rw [List.append_nil] at this
  rw [Lib.parseMag, if_neg (dec_ne u), this]; rfl
theorem atoi_itoa {p : Int} (h1 : -1000000 < p) (h2 : p < 1000000) : atoiV (Lib.itoa p) = p := by
  have key : Lib.atoiAll (Lib.itoa p) = .ok p := by
    unfold Lib.itoa
    split
    · rename_i hn
      unfold Lib.atoiAll
      simp only
      rw [if_pos (.inr (by decide)), mag_dec (by omega)]
      simp only
      have h45 : (45 : UInt8).toNat = 45 := by decide
      rw [if_neg (by rw [h45]; simp), if_neg (by omega)]
      rw [if_pos h45]
      congr 1
      omega
    · cases hd : Lib.decDigits p.toNat with
      | nil => exact absurd hd (dec_ne _)
      | cons c r =>
        have hc := dec_digits p.toNat c (by rw [hd]; exact List.mem_cons_self)
        have hm := mag_dec (u := p.toNat) (by omega)
        unfold Lib.atoiAll
        simp only
        rw [if_neg (by omega), ← hd, hm]
        simp only
        rw [if_neg (by omega), if_neg (by omega), if_neg (by omega)]
        congr 1
        omega
  rw [atoiV, key]
theorem dec_inj {u v : Nat} (h : Lib.decDigits u = Lib.decDigits v) : u = v := by
  have h1 := goU_dec (u + v) u [] (by omega)
  have h2 := goU_dec (u + v) v [] (by omega)
  rw [h] at h1
  have := h1.symm.trans h2
  exact congrArg Prod.fst this
end Go.Proofs.YtckcadhjpjjmjaaDoor
namespace Go.Proofs.YtckcadhjpjjmjaaDoor
open Go.RowKit
def errU (k : Nat) : Value := if k = 0 then .nilIface else .iface 107 (.int .i64 (k : Int))
theorem rowb {ok : Nat → Prop} {w : World} {A : Option Addr} {n c : Nat} {l : List UInt8} (h : kU8.Row ok w A n c l) {i : Nat} {x : UInt8} (hx : l[i]? = some x) :
    ∃ p o, (∀ wx : World, (Instr.indexAt 71 (.slice A n c) (.int .i64 (i : Int))).run Tryd.prog wx = .ok (.pointer (some ⟨p, o, none⟩)) wx) ∧ w.cell? ⟨p, o, none⟩ = some (bv x) := by
  obtain ⟨b, o, cs, h1, -, hb, hk, hr⟩ := h.index (P := Tryd.prog) Tryd.underlying71 (E := 5) (by kernel_rfl) hx
  obtain ⟨rfl, -⟩ := hk
  exact ⟨b, o, h1, by simpa using hr 0 _ rfl⟩
theorem c_lower (y : UInt8) (w : World) : Calls Tryd.prog 110 #[bv y] w fun e w' => e = .returned (bv (lowU y)) ∧ w' = w := by
  refine (AnyPu.internal_strconv_lower (show Go.Proofs.LaysPu.n19 Tryd.prog Tryd.laysPu14_ren from { Tryd.laysPu14 with }) (y.toNat : Int) w).mono fun e w' ⟨h1, h2⟩ => ⟨?_, h2⟩
  rw [h1]
  have e : bits .or .u8 (y.toNat : Int) 32 = ((lowU y).toNat : Int) := by
    rw [show (32 : Int) = ((32 : Nat) : Int) from rfl, u8_or_nat _ _ y.toNat_lt (by decide)]
    rw [lowU, UInt8.toNat_or]; rfl
  rw [e]
theorem go_dig {M r k : Nat} {x : List UInt8} {y : UInt8} (base : Nat) (hy : x[k]? = some y) : goU base M r (x.drop k) = match digU y with
    | none => (0, 2)
    | some d => if base ≤ d then (0, 2) else if M < r * base + d then (M, 1) else goU base M (r * base + d) (x.drop (k + 1)) := by
  obtain ⟨hk, he⟩ := List.getElem?_eq_some_iff.1 hy
  rw [List.drop_eq_getElem_cons hk, he, goU] <;> (cases digU y <;> rfl)
theorem dig_num {y : UInt8} (h1 : 48 ≤ y.toNat) (h2 : y.toNat ≤ 57) : digU y = some (y.toNat - 48) := by rw [digU, if_pos ⟨h1, h2⟩]
theorem dig_let {y : UInt8} (h : ¬ (48 ≤ y.toNat ∧ y.toNat ≤ 57)) (h1 : 97 ≤ (lowU y).toNat) (h2 : (lowU y).toNat ≤ 122) : digU y = some ((lowU y).toNat - 87) := by rw [digU, if_neg h, if_pos ⟨h1, h2⟩]
theorem dig_non {y : UInt8} (h : ¬ (48 ≤ y.toNat ∧ y.toNat ≤ 57)) (h1 : ¬ (97 ≤ (lowU y).toNat ∧ (lowU y).toNat ≤ 122)) : digU y = none := by rw [digU, if_neg h, if_neg h1]
theorem sub48 {y : UInt8} (h1 : 48 ≤ y.toNat) : IntKind.u8.wrap ((y.toNat : Int) - 48) = ((y.toNat - 48 : Nat) : Int) := by
  have := y.toNat_lt
  rw [IntKind.wrap_u8]; omega
theorem mulB {r : Nat} (h : r ≤ 9007199254740991) : IntKind.u64.wrap ((r : Int) * 10) = ((r * 10 : Nat) : Int) := by rw [IntKind.wrap_u64]; omega
theorem addB {r d : Nat} (h : r ≤ 9007199254740991) (hd : d < 256) : IntKind.u64.wrap (((r * 10 : Nat) : Int) + (d : Int)) = ((r * 10 + d : Nat) : Int) := by rw [IntKind.wrap_u64]; omega
theorem meas_u {k n : Nat} (h : k < n) : n - ((k : Int) + 1).toNat < n - ((k : Int)).toNat := by omega
theorem wrap_u {k n : Nat} (h : k < n) (hn : n ≤ 1000000) : wrap64 ((k : Int) + 1) = (k : Int) + 1 := IntWalk.wrap64_in _ (by omega)
theorem nc95 {y : UInt8} (h : y ≠ 95) : ¬ y.toNat = 95 := fun h1 => h (by
  apply UInt8.toNat_inj.1
  rw [h1]; rfl)
theorem ne95 {y : UInt8} (h : y ≠ 95) : ((y.toNat : Int) == 95) = false := beq_eq_false_iff_ne.2 fun e => nc95 h (by omega)
theorem nle_dig {y : UInt8} (h : y.toNat ≤ 57) : ¬ (10 : Int) ≤ ((y.toNat - 48 : Nat) : Int) := by omega
theorem ncut {r : Nat} (h : r ≤ 9007199254740991) : ¬ (1844674407370955162 : Int) ≤ (r : Int) := by omega
set_option maxRecDepth 100000 in
set_option maxHeartbeats 3200000 in
theorem c_ipu (x : List UInt8) (w : World) (hx : x.length ≤ 1000000) :
    Calls Tryd.prog 90 #[.string (txt x), .int .i64 10, .int .i64 53] w fun e w' => e = .returned (.tuple #[.int .u64 ((puU 10 9007199254740991 x).1 : Nat), errU (puU 10 9007199254740991 x).2]) ∧ Below w.heap.size w w' := by
  obtain ⟨M, hM⟩ : ∃ M, M = 9007199254740991 := ⟨_, rfl⟩
  rw [← hM]
  have HB : Hid (Below w.heap.size w w) := hide (Below.refl _ _)
  by_cases h0 : x = []
  · subst h0
    have HE : Hid (puU 10 M [] = (0, 2)) := hide rfl
    go_enter Tryd.func90, Tryd.ntmps90
    go_wp2_with fail
    exact bodyPost_ret (v := .tuple #[.int .u64 0, .iface 107 (.int .i64 2)]) (by simp [results, Tryd.results90, go_sem]) rfl ⟨by rw [HE.out]; rfl, HB.out⟩
  · have hne : (x == []) = false := beq_eq_false_iff_ne.2 h0
    have hsz := txt_size x
    obtain ⟨n, hn⟩ : ∃ n, x.length = n := ⟨_, rfl⟩
    have hs2 : (txt x).size = n := by rw [hsz, hn]
    have HL := hide hn
    have hn6 : n ≤ 1000000 := by rw [← hn]; exact hx
    have HP0 : Hid (puU 10 M x = goU 10 M 0 (x.drop 0)) := hide (by rw [puU, if_neg h0]; rfl)
    have HM := hide hM
    have HMi : Hid ((M : Int) = 9007199254740991) := hide (by omega)
    have hlim : (txt x).size ≤ 9223372036854775807 := by omega
    have HLIM := hide hlim
    have hempty : ¬ (txt x).size = 0 := by rw [hsz]; have := List.length_pos_iff.2 h0; omega
    have HPOS : Hid (0 < (txt x).size) := hide (by omega)
    clear h0 hsz hn hx hM hlim hempty
    go_enter Tryd.func90, Tryd.ntmps90
    go_wp2_with ((with_reducible show wpList _ _ _ (Oper.mk (some 99) _ _ _ _ _ :: _) _ _); go_loud (refine at_tobytes (E := 5) 9 71 (txt x) rfl Tryd.underlying9 Tryd.underlying71 Tryd.underlying5 HLIM.out w.heap.size rfl ?_))
    intro c w1 hR b1 hlt1
    rw [byt_txt] at hR
    have HCL : Hid (∀ (i : Nat) (y : UInt8), x[i]? = some y → w1.cell? ⟨w.heap.size, i, none⟩ = some (bv y)) := hide (fun i y hi => by
      obtain ⟨p, o, e, -, -, hc⟩ := row_bytes hR HPOS.out
      injection e with e
      injection e with e1 e2
      have := hc i y hi
      rw [← e1, ← e2, Nat.zero_add] at this
      exact this)
    have HB := hide b1
    clear hR b1 hlt1
    go_wp2_with fail
    go_loop [12, 13, 101] (fun b q i => ∃ (k r : Nat) (a : Int), b = .bool false ∧ q = .int .u64 a ∧ i = .int .i64 (k : Int) ∧ k ≤ n ∧ Hid (a = (r : Int) ∧ r ≤ M ∧ puU 10 M x = goU 10 M r (x.drop k))) (fun _ _ i => n - (intOf i).toNat)
    case atStart => exact ⟨0, 0, 0, rfl, rfl, rfl, Nat.zero_le _, rfl, Nat.zero_le _, HP0⟩
    case round =>
      obtain ⟨k, r, a, rfl, rfl, rfl, hk, hh⟩ := hrel
      have a0 : 0 ≤ a := by have := hh.out.1; omega
      have a1 : a ≤ 9007199254740991 := by have h1 := hh.out.1; have h2 := hh.out.2.1; have := HM.out; omega
      by_cases hlt : k < n
      · obtain ⟨y, hy⟩ : ∃ y, x[k]? = some y := ⟨_, List.getElem?_eq_getElem (by have := HL.out; omega)⟩
        have hcp := HCL.out k y hy
        have HG := hide (go_dig (M := M) (r := r) 10 hy)
        have hc256 : y.toNat < 256 := y.toNat_lt
        clear hy
        by_cases hdig : 48 ≤ y.toNat ∧ y.toNat ≤ 57
        · obtain ⟨hd0, hd1⟩ := hdig
          have HD := hide (dig_num hd0 hd1)
          have HG2 : Hid (puU 10 M x = if M < r * 10 + (y.toNat - 48) then (M, 1) else goU 10 M (r * 10 + (y.toNat - 48)) (x.drop (k + 1))) := hide (by
            rw [hh.out.2.2, HG.out, HD.out]
            show (if 10 ≤ y.toNat - 48 then _ else _) = _
            rw [if_neg (by omega)])
          by_cases hov : 9007199254740991 < a * 10 + ((y.toNat : Int) - 48)
          · have HE : Hid (puU 10 M x = (M, 1)) := hide (by rw [HG2.out, if_pos (by have h1 := hh.out.1; have := HM.out; omega)])
            have HMi2 : Hid ((9007199254740991 : Int) = (M : Int)) := hide HMi.out.symm
            have HRV : Hid (Ending.returned (.tuple #[.int .u64 9007199254740991, .iface 107 (.int .i64 1)]) = Ending.returned (.tuple #[.int .u64 ((puU 10 M x).1 : Nat), errU (puU 10 M x).2])) := hide (by
              rw [HE.out]
              show _ = Ending.returned (.tuple #[.int .u64 (M : Int), errU 1])
              rw [HMi.out]; rfl)
            clear hh HG HG2
            go_wp2_with fail
            exact bodyPost_ret (v := .tuple #[.int .u64 9007199254740991, .iface 107 (.int .i64 1)]) (by simp [results, Tryd.results90, go_sem]) rfl ⟨HRV.out, HB.out⟩
          · have HN : Hid (a * 10 + ((y.toNat : Int) - 48) = ((r * 10 + (y.toNat - 48) : Nat) : Int) ∧ r * 10 + (y.toNat - 48) ≤ M ∧ puU 10 M x = goU 10 M (r * 10 + (y.toNat - 48)) (x.drop (k + 1))) := hide (by
              have h1 := hh.out.1
              have h2 := HM.out
              exact ⟨by omega, by omega, by rw [HG2.out, if_neg (by omega)]⟩)
            have iov : a * 10 + ((y.toNat : Int) - 48) ≤ 9007199254740991 := by omega
            have HLT := hide hlt
            clear hh HG HG2 hov
            go_wp2_with fail
            go_round
            case rel => exact ⟨k + 1, r * 10 + (y.toNat - 48), a * 10 + ((y.toNat : Int) - 48), rfl, rfl, rfl, HLT.out, HN⟩
            case measure => exact meas_u HLT.out
        · by_cases h95 : y = 95
          · subst h95
            have HE : Hid (puU 10 M x = (0, 2)) := hide (by rw [hh.out.2.2, HG.out]; rfl)
            have HLW : Hid (∀ W : World, Calls Tryd.prog 110 #[.int .u8 95] W fun e w' => e = .returned (.int .u8 127) ∧ w' = W) := hide (fun W => c_lower 95 W)
            clear hh HG hdig
            go_wp2_with fail
            refine (HLW.out _).mono ?_
            rintro e w2 ⟨rfl, rfl⟩
            go_wp2_with fail
            refine (HLW.out _).mono ?_
            rintro e w2 ⟨rfl, rfl⟩
            go_wp2_with fail
            exact bodyPost_ret (v := .tuple #[.int .u64 0, .iface 107 (.int .i64 2)]) (by simp [results, Tryd.results90, go_sem]) rfl ⟨by rw [HE.out]; rfl, HB.out⟩
          · have HLW : Hid (∀ W : World, Calls Tryd.prog 110 #[.int .u8 (y.toNat : Int)] W fun e w' => e = .returned (bv (lowU y)) ∧ w' = W) := hide (fun W => c_lower y W)
            have h95' : ((y.toNat : Int) == 95) = false := ne95 h95
            have h95b : ¬ ((y.toNat : Int) = 95) := beq_eq_false_iff_ne.1 h95'
            have h95c : ¬ y.toNat = 95 := nc95 h95
            have HE : Hid (puU 10 M x = (0, 2)) := hide (by
              rw [hh.out.2.2, HG.out]
              by_cases hq : 97 ≤ (lowU y).toNat ∧ (lowU y).toNat ≤ 122
              · rw [dig_let hdig hq.1 hq.2]
                show (if 10 ≤ (lowU y).toNat - 87 then _ else _) = _
                rw [if_pos (by omega)]
              · rw [dig_non hdig hq])
            obtain ⟨l, hl⟩ : ∃ l, lowU y = l := ⟨_, rfl⟩
            rw [hl] at HLW
            have hl256 : l.toNat < 256 := l.toNat_lt
            clear hh HG hl h95
            by_cases hd0 : 48 ≤ y.toNat
            · have hd1 : ¬ y.toNat ≤ 57 := fun h => hdig ⟨hd0, h⟩
              clear hdig
              by_cases hl0 : 97 ≤ l.toNat
              · by_cases hl1 : l.toNat ≤ 122
                · go_wp2_with fail
                  refine (HLW.out _).mono ?_
                  rintro e w2 ⟨rfl, rfl⟩
                  go_wp2_with fail
                  refine (HLW.out _).mono ?_
                  rintro e w2 ⟨rfl, rfl⟩
                  go_wp2_with fail
                  refine (HLW.out _).mono ?_
                  rintro e w2 ⟨rfl, rfl⟩
                  go_wp2_with fail
                  exact bodyPost_ret (v := .tuple #[.int .u64 0, .iface 107 (.int .i64 2)]) (by simp [results, Tryd.results90, go_sem]) rfl ⟨by rw [HE.out]; rfl, HB.out⟩
                · go_wp2_with fail
                  refine (HLW.out _).mono ?_
                  rintro e w2 ⟨rfl, rfl⟩
                  go_wp2_with fail
                  refine (HLW.out _).mono ?_
                  rintro e w2 ⟨rfl, rfl⟩
                  go_wp2_with fail
                  exact bodyPost_ret (v := .tuple #[.int .u64 0, .iface 107 (.int .i64 2)]) (by simp [results, Tryd.results90, go_sem]) rfl ⟨by rw [HE.out]; rfl, HB.out⟩
              · go_wp2_with fail
                refine (HLW.out _).mono ?_
                rintro e w2 ⟨rfl, rfl⟩
                go_wp2_with fail
                exact bodyPost_ret (v := .tuple #[.int .u64 0, .iface 107 (.int .i64 2)]) (by simp [results, Tryd.results90, go_sem]) rfl ⟨by rw [HE.out]; rfl, HB.out⟩
            · clear hdig
              by_cases hl0 : 97 ≤ l.toNat
              · by_cases hl1 : l.toNat ≤ 122
                · go_wp2_with fail
                  refine (HLW.out _).mono ?_
                  rintro e w2 ⟨rfl, rfl⟩
                  go_wp2_with fail
                  refine (HLW.out _).mono ?_
                  rintro e w2 ⟨rfl, rfl⟩
                  go_wp2_with fail
                  refine (HLW.out _).mono ?_
                  rintro e w2 ⟨rfl, rfl⟩
                  go_wp2_with fail
                  exact bodyPost_ret (v := .tuple #[.int .u64 0, .iface 107 (.int .i64 2)]) (by simp [results, Tryd.results90, go_sem]) rfl ⟨by rw [HE.out]; rfl, HB.out⟩
                · go_wp2_with fail
                  refine (HLW.out _).mono ?_
                  rintro e w2 ⟨rfl, rfl⟩
                  go_wp2_with fail
                  refine (HLW.out _).mono ?_
                  rintro e w2 ⟨rfl, rfl⟩
                  go_wp2_with fail
                  exact bodyPost_ret (v := .tuple #[.int .u64 0, .iface 107 (.int .i64 2)]) (by simp [results, Tryd.results90, go_sem]) rfl ⟨by rw [HE.out]; rfl, HB.out⟩
              · go_wp2_with fail
                refine (HLW.out _).mono ?_
                rintro e w2 ⟨rfl, rfl⟩
                go_wp2_with fail
                exact bodyPost_ret (v := .tuple #[.int .u64 0, .iface 107 (.int .i64 2)]) (by simp [results, Tryd.results90, go_sem]) rfl ⟨by rw [HE.out]; rfl, HB.out⟩
      · obtain rfl : k = n := by omega
        have HE : Hid (Ending.returned (.tuple #[.int .u64 a, .nilIface]) = Ending.returned (.tuple #[.int .u64 ((puU 10 M x).1 : Nat), errU (puU 10 M x).2])) := hide (by
          rw [hh.out.2.2, List.drop_of_length_le (Nat.le_of_eq HL.out)]
          show _ = Ending.returned (.tuple #[.int .u64 (r : Int), errU 0])
          rw [hh.out.1]; rfl)
        clear hh
        go_wp2_with fail
        exact bodyPost_ret (v := .tuple #[.int .u64 a, .nilIface]) (by simp [results, Tryd.results90, go_sem]) rfl ⟨HE.out, HB.out⟩
end Go.Proofs.YtckcadhjpjjmjaaDoor
namespace Go.Proofs.YtckcadhjpjjmjaaDoor
open Go.RowKit
section
variable (B : Nat)
/-- What a rung comes to. -/
def magR (r : Nat) : Nat := if r < B then r else B + r % B
def upR (r : Nat) : Nat := if r < B then 0 else r / B - 1
def valR (r : Nat) : Nat := magR B r * 2 ^ upR B r
theorem val_step (hB : 0 < B) (r : Nat) : valR B r < valR B (r + 1) := by
  obtain ⟨q, f, hf, hr⟩ : ∃ q f, f < B ∧ r = q * B + f := ⟨r / B, r % B, Nat.mod_lt _ hB, by rw [Nat.mul_comm]; exact (Nat.div_add_mod r B).symm⟩
  have hq : r / B = q := by rw [hr, Nat.mul_comm, Nat.mul_add_div hB, Nat.div_eq_of_lt hf, Nat.add_zero]
  have hm : r % B = f := by rw [hr, Nat.mul_comm, Nat.mul_add_mod, Nat.mod_eq_of_lt hf]
  rcases Nat.eq_zero_or_pos q with h0 | h0
  · subst h0
    have hrB : r < B := by omega
    by_cases h1 : r + 1 < B
    · simp only [valR, magR, upR, if_pos hrB, if_pos h1]; omega
    · have e : r + 1 = B := by omega
      have h2 : (r + 1) % B = 0 := by rw [e, Nat.mod_self]
      have h3 : (r + 1) / B = 1 := by rw [e, Nat.div_self hB]
      simp only [valR, magR, upR, if_pos hrB, if_neg h1, h2, h3]; omega
  · have hqB : B ≤ q * B := Nat.le_mul_of_pos_left B h0
    have hrB : ¬ r < B := by omega
    have hrB1 : ¬ r + 1 < B := by omega
    have hp : 0 < 2 ^ (q - 1) := Nat.pow_pos (by decide)
    by_cases h1 : f + 1 < B
    · have e : r + 1 = q * B + (f + 1) := by omega
      have h2 : (r + 1) % B = f + 1 := by rw [e, Nat.mul_comm, Nat.mul_add_mod, Nat.mod_eq_of_lt h1]
      have h3 : (r + 1) / B = q := by rw [e, Nat.mul_comm, Nat.mul_add_div hB, Nat.div_eq_of_lt h1, Nat.add_zero]
      simp only [valR, magR, upR, if_neg hrB, if_neg hrB1, h2, h3, hq, hm]
      exact Nat.mul_lt_mul_of_pos_right (by omega) hp
    · have e : r + 1 = (q + 1) * B := by rw [Nat.add_mul, Nat.one_mul]; omega
      have h2 : (r + 1) % B = 0 := by rw [e, Nat.mul_mod_left]
      have h3 : (r + 1) / B = q + 1 := by rw [e, Nat.mul_div_cancel _ hB]
      simp only [valR, magR, upR, if_neg hrB, if_neg hrB1, h2, h3, hq, hm]
      have e2 : 2 ^ (q + 1 - 1) = 2 ^ (q - 1) * 2 := by rw [← Nat.pow_succ]; congr 1; omega
      rw [e2, Nat.add_zero, Nat.mul_comm (2 ^ (q - 1)) 2, ← Nat.mul_assoc]
      exact Nat.mul_lt_mul_of_pos_right (by omega) hp
theorem val_lt (hB : 0 < B) {r s : Nat} (h : r < s) : valR B r < valR B s := by
  obtain ⟨k, rfl⟩ : ∃ k, s = r + 1 + k := ⟨s - r - 1, by omega⟩
  clear h
  induction k with
  | zero => exact val_step B hB r
  | succ k ih => exact Nat.lt_trans ih (val_step B hB (r + 1 + k))
theorem val_zero0 (hB : 0 < B) : valR B 0 = 0 := by simp [valR, magR, upR, hB]
theorem val_inj (hB : 0 < B) {r s : Nat} : valR B r = valR B s ↔ r = s := by
  refine ⟨fun h => ?_, fun h => by rw [h]⟩
  rcases Nat.lt_trichotomy r s with h1 | h1 | h1
  · have := val_lt B hB h1; omega
  · exact h1
  · have := val_lt B hB h1; omega
/-- A sign and a rung, as a number. -/
def sgn (s : Bool) (r : Nat) : Int := if s then -(r : Int) else r
theorem sgn_cmp (hB : 0 < B) (s t : Bool) (r q : Nat) : compare (sgn s (valR B r)) (sgn t (valR B q)) = compare (sgn s r) (sgn t q) := by
  have h1 : valR B r < valR B q ↔ r < q := ⟨fun h => by
    rcases Nat.lt_trichotomy r q with h2 | h2 | h2
    · exact h2
    · rw [h2] at h; omega
    · have := val_lt B hB h2; omega, val_lt B hB⟩
  have h2 : valR B q < valR B r ↔ q < r := ⟨fun h => by
    rcases Nat.lt_trichotomy r q with h2 | h2 | h2
    · have := val_lt B hB h2; omega
    · rw [h2] at h; omega
    · exact h2, val_lt B hB⟩
  have h3 := val_inj B hB (r := r) (s := q)
  have h4 : valR B r = 0 ↔ r = 0 := by have h := val_inj B hB (r := r) (s := 0); rwa [val_zero0 B hB] at h
  have h5 : valR B q = 0 ↔ q = 0 := by have h := val_inj B hB (r := q) (s := 0); rwa [val_zero0 B hB] at h
  have key : ∀ x y x' y' : Int, (x < y ↔ x' < y') → (x = y ↔ x' = y') → compare x y = compare x' y' := by
    intro x y x' y' ha hb
    simp only [compare, compareOfLessAndEq]
    by_cases hc : x < y
    · rw [if_pos hc, if_pos (ha.1 hc)]
    · rw [if_neg hc, if_neg (fun h => hc (ha.2 h))]
      by_cases hd : x = y
      · rw [if_pos hd, if_pos (hb.1 hd)]
      · rw [if_neg hd, if_neg (fun h => hd (hb.2 h))]
  apply key
  · cases s <;> cases t <;> simp [sgn] <;> omega
  · cases s <;> cases t <;> simp [sgn] <;> omega
end
/-- A word's sign, and its rung. -/
def negW (f : Ieee.Format) (x : Nat) : Bool := x / f.signWeight % 2 == 1
def rungW (f : Ieee.Format) (x : Nat) : Nat := x % f.signWeight
theorem read_number (f : Ieee.Format) (x : Nat) (h : rungW f x < f.infRung) : f.read x = .number (negW f x) (magR f.binade (rungW f x)) (f.leastPlace + (upR f.binade (rungW f x) : Nat)) := by
  unfold Ieee.Format.read
  show (if rungW f x < f.binade then _ else if rungW f x < f.infRung then _ else _) = _
  by_cases hb : rungW f x < f.binade
  · rw [if_pos hb, magR, upR, if_pos hb, if_pos hb]
    simp [negW, rungW]
  · rw [if_neg hb, if_pos h, magR, upR, if_neg hb, if_neg hb]
    rfl
theorem read_inf (f : Ieee.Format) (x : Nat) (hle : f.binade ≤ f.infRung) (h : rungW f x = f.infRung) : f.read x = .infinity (negW f x) := by
  unfold Ieee.Format.read
  show (if rungW f x < f.binade then _ else if rungW f x < f.infRung then _ else if rungW f x = f.infRung then _ else _) = _
  rw [if_neg (by omega), if_neg (by omega), if_pos h]
  rfl
theorem read_nan (f : Ieee.Format) (x : Nat) (hle : f.binade ≤ f.infRung) (h : f.infRung < rungW f x) : ∃ s t, f.read x = .nan s t := by
  unfold Ieee.Format.read
  refine ⟨negW f x, rungW f x - f.infRung, ?_⟩
  show (if rungW f x < f.binade then _ else if rungW f x < f.infRung then _ else if rungW f x = f.infRung then _ else _) = _
  rw [if_neg (by omega), if_neg (by omega), if_neg (by omega)]
  rfl
theorem cmp_mul (x y : Int) (k : Nat) (hk : 0 < k) : compare (x * k) (y * k) = compare x y := by
  have hk' : (0 : Int) < k := by omega
  simp only [compare, compareOfLessAndEq]
  by_cases hc : x < y
  · rw [if_pos hc, if_pos (Int.mul_lt_mul_of_pos_right hc hk')]
  · rw [if_neg hc, if_neg (fun h => hc (Int.lt_of_mul_lt_mul_right h (by omega)))]
    by_cases hd : x = y
    · rw [if_pos hd, if_pos (by rw [hd])]
    · rw [if_neg hd, if_neg (fun h => hd (Int.eq_of_mul_eq_mul_right (by omega) h))]
theorem signed_mul (s : Bool) (m u k : Nat) (h : k ≤ u) : Ieee.signed s m (u - k) * ((2 ^ k : Nat) : Int) = sgn s (m * 2 ^ u) := by
  have e : m * 2 ^ u = m <<< (u - k) * 2 ^ k := by rw [Nat.shiftLeft_eq, Nat.mul_assoc, ← Nat.pow_add, Nat.sub_add_cancel h]
  rw [e]
  cases s with
  | true =>
    show (-((m <<< (u - k) : Nat) : Int)) * ((2 ^ k : Nat) : Int) = -((m <<< (u - k) * 2 ^ k : Nat) : Int)
    rw [Int.neg_mul, ← Int.natCast_mul]
  | false =>
    show ((m <<< (u - k) : Nat) : Int) * ((2 ^ k : Nat) : Int) = ((m <<< (u - k) * 2 ^ k : Nat) : Int)
    rw [← Int.natCast_mul]
theorem order_num (f : Ieee.Format) (hB : 0 < f.binade) (x y : Nat) (hx : rungW f x < f.infRung) (hy : rungW f y < f.infRung) : f.order x y = some (compare (sgn (negW f x) (rungW f x)) (sgn (negW f y) (rungW f y))) := by
  rw [Ieee.Format.order, read_number f x hx, read_number f y hy]
  obtain ⟨u, hu⟩ : ∃ u, upR f.binade (rungW f x) = u := ⟨_, rfl⟩
  obtain ⟨v, hv⟩ : ∃ v, upR f.binade (rungW f y) = v := ⟨_, rfl⟩
  rw [hu, hv]
  simp only [Ieee.Datum.order]
  have e1 : (f.leastPlace + (u : Int) - min (f.leastPlace + (u : Int)) (f.leastPlace + (v : Int))).toNat = u - min u v := by omega
  have e2 : (f.leastPlace + (v : Int) - min (f.leastPlace + (u : Int)) (f.leastPlace + (v : Int))).toNat = v - min u v := by omega
  rw [e1, e2, ← cmp_mul _ _ (2 ^ min u v) (Nat.pow_pos (by decide)), signed_mul _ _ _ _ (Nat.min_le_left u v), signed_mul _ _ _ _ (Nat.min_le_right u v), ← hu, ← hv]
  exact congrArg some (sgn_cmp f.binade hB _ _ _ _)
theorem cmp_lt {x y : Int} (h : x < y) : compare x y = .lt := by simp [compare, compareOfLessAndEq, h]
theorem cmp_gt {x y : Int} (h : y < x) : compare x y = .gt := by
  have h1 : ¬ x < y := by omega
  have h2 : ¬ x = y := by omega
  simp [compare, compareOfLessAndEq, h1, h2]
theorem cmp_eq (x : Int) : compare x x = .eq := by simp [compare, compareOfLessAndEq]
theorem inf_lt (s t : Bool) (r i : Nat) (h : r < i) : (if t then Ordering.gt else .lt) = compare (sgn s r) (sgn t i) := by
  cases t with
  | true => exact (cmp_gt (by cases s <;> simp only [sgn, if_true, Bool.false_eq_true, if_false] <;> omega)).symm
  | false => exact (cmp_lt (by cases s <;> simp only [sgn, if_true, Bool.false_eq_true, if_false] <;> omega)).symm
theorem inf_gt (s t : Bool) (r i : Nat) (h : r < i) : (if s then Ordering.lt else .gt) = compare (sgn s i) (sgn t r) := by
  cases s with
  | true => exact (cmp_lt (by cases t <;> simp only [sgn, if_true, Bool.false_eq_true, if_false] <;> omega)).symm
  | false => exact (cmp_gt (by cases t <;> simp only [sgn, if_true, Bool.false_eq_true, if_false] <;> omega)).symm
theorem inf_inf (s t : Bool) (i : Nat) (h : 0 < i) : compare t.toNat s.toNat = compare (sgn s i) (sgn t i) := by
  cases s <;> cases t
  · exact (cmp_eq _).symm
  · exact (cmp_gt (by simp only [sgn, if_true, Bool.false_eq_true, if_false]; omega)).symm
  · exact (cmp_lt (by simp only [sgn, if_true, Bool.false_eq_true, if_false]; omega)).symm
  · exact (cmp_eq _).symm
theorem order_rank (f : Ieee.Format) (hB : 0 < f.binade) (hle : f.binade ≤ f.infRung) (x y : Nat) : f.order x y = if f.infRung < rungW f x ∨ f.infRung < rungW f y then none else some (compare (sgn (negW f x) (rungW f x)) (sgn (negW f y) (rungW f y))) := by
  by_cases hn : f.infRung < rungW f x ∨ f.infRung < rungW f y
  · rw [if_pos hn]
    rcases hn with h | h
    · obtain ⟨s, t, e⟩ := read_nan f x hle h
      rw [Ieee.Format.order, e]
      rfl
    · obtain ⟨s, t, e⟩ := read_nan f y hle h
      rw [Ieee.Format.order, e]
      cases f.read x <;> rfl
  · rw [if_neg hn]
    have hn1 : ¬ f.infRung < rungW f x := fun h => hn (.inl h)
    have hn2 : ¬ f.infRung < rungW f y := fun h => hn (.inr h)
    have hi : 0 < f.infRung := by omega
    by_cases hx : rungW f x < f.infRung
    · by_cases hy : rungW f y < f.infRung
      · exact order_num f hB x y hx hy
      · have ey : rungW f y = f.infRung := by omega
        rw [Ieee.Format.order, read_number f x hx, read_inf f y hle ey, ey]
        simp only [Ieee.Datum.order]
        exact congrArg some (inf_lt _ _ _ _ hx)
    · have ex : rungW f x = f.infRung := by omega
      by_cases hy : rungW f y < f.infRung
      · rw [Ieee.Format.order, read_inf f x hle ex, read_number f y hy, ex]
        simp only [Ieee.Datum.order]
        exact congrArg some (inf_gt _ _ _ _ hy)
      · have ey : rungW f y = f.infRung := by omega
        rw [Ieee.Format.order, read_inf f x hle ex, read_inf f y hle ey, ex, ey]
        simp only [Ieee.Datum.order]
        exact congrArg some (inf_inf _ _ _ hi)
end Go.Proofs.YtckcadhjpjjmjaaDoor
namespace Go.Proofs.YtckcadhjpjjmjaaDoor
open Go.RowKit
abbrev ordD (a b : Nat) : Option Ordering := FloatKind.f64.format.order a b
/-- Is the one at most the other one? -/
def lqD (a b : Nat) : Bool := ordD a b == some .lt || ordD a b == some .eq
theorem c_atmost (a b : Nat) (w : World) : Calls Tryd.prog 18 #[.float .f64 a, .float .f64 b] w fun e w' => e = .returned (.bool (lqD a b)) ∧ w' = w := by
  go_enter Tryd.func18, Tryd.ntmps18
  go_wp2_with fail
  go_ret
  exact ⟨rfl, rfl⟩
theorem run_fbits (b : Nat) (w : World) : (callFunc 53 #[.float .f64 b]).run Tryd.prog w = .ok (.value (.int .u64 (b : Int))) w := by
  rw [run_callFunc_extern (e := Extern.MathFloatBits.float64bits) Tryd.func53 (by kernel_rfl) (by kernel_rfl) (by kernel_rfl) (by kernel_rfl)]
  rfl
theorem run_ffrom (b : Nat) (w : World) : (callFunc 17 #[.int .u64 (b : Int)]).run Tryd.prog w = .ok (.value (.float .f64 b)) w := by
  rw [run_callFunc_extern (e := Extern.MathFloatBits.float64frombits) Tryd.func17 (by kernel_rfl) (by kernel_rfl) (by kernel_rfl) (by kernel_rfl)]
  rfl
/-- Where a number stands. -/
def rkD (b : Nat) : Int := sgn (negW Ieee.double b) (rungW Ieee.double b)
theorem sw_double : Ieee.double.signWeight = 9223372036854775808 := by decide +kernel
theorem rk_neg {b : Nat} (h : b / 9223372036854775808 = 1) : rkD b = -((b : Int) % 9223372036854775808) := by
  have h1 : negW Ieee.double b = true := by rw [negW, sw_double, h]; rfl
  rw [rkD, h1, rungW, sw_double]
  simp only [sgn, if_true]
  omega
theorem rk_pos {b : Nat} (hb : b < 18446744073709551616) (h : ¬ b / 9223372036854775808 = 1) : rkD b = (b : Int) % 9223372036854775808 := by
  have h0 : b / 9223372036854775808 = 0 := by omega
  have h1 : negW Ieee.double b = false := by rw [negW, sw_double, h0]; rfl
  rw [rkD, h1, rungW, sw_double]
  simp only [sgn, Bool.false_eq_true, if_false]
  omega
set_option maxRecDepth 100000 in
set_option maxHeartbeats 800000 in
theorem c_rank (b : Nat) (w : World) (hb : b < 18446744073709551616) : Calls Tryd.prog 52 #[.float .f64 b] w fun e w' => e = .returned (.int .i64 (rkD b)) ∧ w' = w := by
  have hbits := run_fbits b
  by_cases hneg : b / 9223372036854775808 = 1
  · have HR := hide (rk_neg hneg)
    have hq : ((b : Int) / 9223372036854775808 == 1) = true := beq_iff_eq.2 (by omega)
    clear hneg
    go_enter Tryd.func52, Tryd.ntmps52
    go_wp2_with fail
    go_ret
    exact ⟨by rw [HR.out]; rfl, rfl⟩
  · have HR := hide (rk_pos hb hneg)
    have hq : ((b : Int) / 9223372036854775808 == 1) = false := beq_eq_false_iff_ne.2 (by omega)
    clear hneg
    go_enter Tryd.func52, Tryd.ntmps52
    go_wp2_with fail
    go_ret
    exact ⟨by rw [HR.out]; rfl, rfl⟩
/-- Is it none? -/
def nanD (b : Nat) : Bool := decide (Ieee.double.infRung < rungW Ieee.double b)
theorem order_d (a b : Nat) : ordD a b = if nanD a = true ∨ nanD b = true then none else some (compare (rkD a) (rkD b)) := by
  have h := order_rank Ieee.double (by decide +kernel) (by decide +kernel) a b
  simp only [nanD, decide_eq_true_eq]
  exact h
theorem self_d (a : Nat) : (ordD a a != some .eq) = nanD a := by
  rw [order_d]
  cases nanD a with
  | true => rfl
  | false => simp
theorem lq_d (a b : Nat) : lqD a b = (!nanD a && !nanD b && decide (rkD a ≤ rkD b)) := by
  rw [lqD, order_d]
  cases nanD a with
  | true => rfl
  | false =>
    cases nanD b with
    | true => rfl
    | false =>
      rcases Int.lt_trichotomy (rkD a) (rkD b) with h | h | h
      · rw [if_neg (by simp), cmp_lt h, decide_eq_true (by omega)]; rfl
      · rw [if_neg (by simp), h, cmp_eq, decide_eq_true (by omega)]; rfl
      · rw [if_neg (by simp), cmp_gt h, decide_eq_false (by omega)]; rfl
set_option maxRecDepth 100000 in
set_option maxHeartbeats 800000 in
theorem c_ratmost (a b : Nat) (w : World) (ha : a < 18446744073709551616) (hb : b < 18446744073709551616) : Calls Tryd.prog 19 #[.float .f64 a, .float .f64 b] w fun e w' => e = .returned (.bool (lqD a b)) ∧ w' = w := by
  have hsa := self_d a
  have hsb := self_d b
  have HQ := hide (lq_d a b)
  cases hna : nanD a with
  | true =>
    have HE : Hid (lqD a b = false) := hide (by rw [HQ.out, hna]; rfl)
    rw [hna] at hsa
    clear hna hsb
    go_enter Tryd.func19, Tryd.ntmps19
    go_wp2_with fail
    go_ret
    exact ⟨by rw [HE.out]; rfl, rfl⟩
  | false =>
    rw [hna] at hsa
    cases hnb : nanD b with
    | true =>
      have HE : Hid (lqD a b = false) := hide (by rw [HQ.out, hna, hnb]; rfl)
      rw [hnb] at hsb
      clear hna hnb
      go_enter Tryd.func19, Tryd.ntmps19
      go_wp2_with fail
      go_ret
      exact ⟨by rw [HE.out]; rfl, rfl⟩
    | false =>
      have HE : Hid (lqD a b = decide (rkD a ≤ rkD b)) := hide (by rw [HQ.out, hna, hnb]; rfl)
      rw [hnb] at hsb
      clear hna hnb
      go_enter Tryd.func19, Tryd.ntmps19
      go_wp2_with fail
      refine (c_rank a w ha).mono ?_
      rintro e w1 ⟨rfl, rfl⟩
      go_wp2_with fail
      refine (c_rank b w1 hb).mono ?_
      rintro e w2 ⟨rfl, rfl⟩
      go_wp2_with fail
      go_ret
      exact ⟨by rw [HE.out]; rfl, rfl⟩
end Go.Proofs.YtckcadhjpjjmjaaDoor
namespace Go.Proofs.YtckcadhjpjjmjaaDoor
open Go.RowKit
theorem log_of {n k : Nat} (h1 : 2 ^ k ≤ n) (h2 : n < 2 ^ (k + 1)) : n.log2 = k := by
  have h0 : n ≠ 0 := by have := Nat.two_pow_pos k; omega
  exact (Nat.log2_eq_iff h0).2 ⟨h1, h2⟩
theorem log_lo {n : Nat} (h : n ≠ 0) : 2 ^ n.log2 ≤ n := ((Nat.log2_eq_iff h).1 rfl).1
theorem log_hi {n : Nat} (h : n ≠ 0) : n < 2 ^ (n.log2 + 1) := ((Nat.log2_eq_iff h).1 rfl).2
theorem log_mul {m : Nat} (k : Nat) (h : m ≠ 0) : (m * 2 ^ k).log2 = m.log2 + k := by
  refine log_of ?_ ?_
  · rw [Nat.pow_add]; exact Nat.mul_le_mul_right _ (log_lo h)
  · rw [show m.log2 + k + 1 = (m.log2 + 1) + k by omega, Nat.pow_add]
    exact Nat.mul_lt_mul_of_pos_right (log_hi h) (Nat.two_pow_pos k)
/-- What is whole stays, whichever way. -/
theorem cut_exact (way : Ieee.Toward) (neg : Bool) (m k : Nat) (h : m ≠ 0) : way.cut neg (m * 2 ^ k) k = m := by
  have hp := Nat.two_pow_pos k
  have hg : 1 <<< min k ((m * 2 ^ k).log2 + 2) = 2 ^ k := by
    rw [log_mul k h, Nat.min_eq_left (by omega), Nat.one_shiftLeft]
  unfold Ieee.Toward.cut
  simp only [hg, Nat.mul_div_cancel _ hp, Nat.mul_mod_left]
  have h1 : ¬ 2 ^ k < 2 * 0 := by omega
  have h2 : ((2 ^ k : Nat) == 2 * 0) = false := by simp
  cases way <;> simp [h1, h2]
theorem word_lit (neg : Bool) (r : Nat) : Ieee.double.word neg r = if neg then 9223372036854775808 + r else r := by
  rw [Ieee.Format.word, sw_double]
theorem bin_double : Ieee.double.binade = 4503599627370496 := by decide +kernel
theorem inf_double : Ieee.double.infRung = 9218868437227405312 := by decide +kernel
theorem least_double : Ieee.double.leastPlace = -1074 := by decide +kernel
/-- A number that the format has is written as it is. -/
theorem nearest_exact (neg : Bool) (mag M u k : Nat) (place : Int) (hM0 : 0 < M) (hM : M < 9007199254740992) (hn : 4503599627370496 ≤ M ∨ u = 0)
    (hv : (mag = M * 2 ^ k ∧ place = (u : Int) - 1074 - k) ∨ (M = mag * 2 ^ k ∧ place = (u : Int) - 1074 + k))
    (hi : u * 4503599627370496 + M ≤ 9218868437227405312) :
    Ieee.double.nearest neg mag place = Ieee.double.word neg (u * 4503599627370496 + M) := by
  have hlM : M.log2 ≤ 52 := by
    have h1 := log_lo (n := M) (by omega)
    rcases Nat.lt_or_ge 52 M.log2 with h | h
    · have := Nat.pow_le_pow_right (n := 2) (by decide) (show 53 ≤ M.log2 from h)
      omega
    · exact h
  have hlN : 4503599627370496 ≤ M → M.log2 = 52 := fun h => log_of (by omega) (by omega)
  have hmag : mag ≠ 0 := by
    rcases hv with ⟨h, -⟩ | ⟨h, -⟩
    · have := Nat.mul_pos hM0 (Nat.two_pow_pos k); omega
    · intro e; rw [e, Nat.zero_mul] at h; omega
  have hlog : place + (mag.log2 : Int) = (u : Int) - 1074 + M.log2 := by
    rcases hv with ⟨h, h2⟩ | ⟨h, h2⟩
    · rw [h, log_mul k (by omega), h2]; omega
    · have := log_mul k hmag
      rw [← h] at this
      rw [h2, this]; omega
  have hlast : max (place + (mag.log2 : Int) - 52) (-1074) = (u : Int) - 1074 := by
    rw [hlog]
    rcases hn with h | h
    · have := hlN h; omega
    · omega
  have hf : ((Ieee.double.fractionBits : Nat) : Int) = 52 := by decide
  unfold Ieee.Format.nearest
  rw [if_neg hmag]
  simp only [hf, least_double, hlast, bin_double, inf_double]
  have e1 : ((u : Int) - 1074 - -1074).toNat = u := by omega
  rw [e1]
  have hc : Ieee.Toward.even.cut neg (mag <<< (place - ((u : Int) - 1074)).toNat) ((u : Int) - 1074 - place).toNat = M := by
    rcases hv with ⟨h, h2⟩ | ⟨h, h2⟩
    · have e2 : (place - ((u : Int) - 1074)).toNat = 0 := by omega
      have e3 : ((u : Int) - 1074 - place).toNat = k := by omega
      rw [e2, e3, Nat.shiftLeft_zero, h]
      exact cut_exact _ _ _ _ (by omega)
    · have e2 : (place - ((u : Int) - 1074)).toNat = k := by omega
      have e3 : ((u : Int) - 1074 - place).toNat = 0 := by omega
      rw [e2, e3, Nat.shiftLeft_eq, ← h]
      have := cut_exact .even neg M 0 (by omega)
      rwa [Nat.pow_zero, Nat.mul_one] at this
  rw [hc, Nat.min_eq_left hi]
/-- A word's digits, and their place. -/
def sigW (b : Nat) : Nat := if b < 4503599627370496 then b else 4503599627370496 + b % 4503599627370496
def upW (b : Nat) : Nat := if b < 4503599627370496 then 0 else b / 4503599627370496 - 1
theorem put_get (b : Nat) : upW b * 4503599627370496 + sigW b = b := by
  unfold sigW upW
  split <;> omega
theorem sig_lt (b : Nat) : sigW b < 9007199254740992 := by unfold sigW; split <;> omega
theorem sig_norm (b : Nat) : 4503599627370496 ≤ sigW b ∨ upW b = 0 := by unfold sigW upW; split <;> omega
theorem sig_pos {b : Nat} (h : 0 < b) : 0 < sigW b := by unfold sigW; split <;> omega
theorem up_lt {b : Nat} (h : b < 9218868437227405312) : upW b ≤ 2045 := by unfold upW; split <;> omega
theorem sig_put {M u : Nat} (h1 : 4503599627370496 ≤ M) (h2 : M < 9007199254740992) : sigW (u * 4503599627370496 + M) = M ∧ upW (u * 4503599627370496 + M) = u := by
  unfold sigW upW
  rw [if_neg (by omega), if_neg (by omega)]
  omega
theorem sig_sub {M : Nat} (h : M < 4503599627370496) : sigW M = M ∧ upW M = 0 := by
  unfold sigW upW
  rw [if_pos h, if_pos h]; exact ⟨rfl, rfl⟩
theorem read_fin {b : Nat} (h : b < 9218868437227405312) : Ieee.double.read b = .number false (sigW b) ((upW b : Int) - 1074) := by
  have hr : rungW Ieee.double b = b := by rw [rungW, sw_double]; omega
  have hg : negW Ieee.double b = false := by rw [negW, sw_double, Nat.div_eq_of_lt (by omega)]; rfl
  rw [read_number _ _ (by rw [hr, inf_double]; exact h), hr, hg, bin_double, least_double]
  have e1 : magR 4503599627370496 b = sigW b := rfl
  have e2 : upR 4503599627370496 b = upW b := rfl
  rw [e1, e2, Int.add_comm, ← Int.sub_eq_add_neg]
theorem read_neg {b : Nat} (h : b < 9218868437227405312) : Ieee.double.read (9223372036854775808 + b) = .number true (sigW b) ((upW b : Int) - 1074) := by
  have hr : rungW Ieee.double (9223372036854775808 + b) = b := by rw [rungW, sw_double]; omega
  have hg : negW Ieee.double (9223372036854775808 + b) = true := by
    rw [negW, sw_double, show (9223372036854775808 + b) / 9223372036854775808 = 1 by omega]; rfl
  rw [read_number _ _ (by rw [hr, inf_double]; exact h), hr, hg, bin_double, least_double]
  have e1 : magR 4503599627370496 b = sigW b := rfl
  have e2 : upR 4503599627370496 b = upW b := rfl
  rw [e1, e2, Int.add_comm, ← Int.sub_eq_add_neg]
/-- A product that the format has. -/
theorem mul_exact {x y b : Nat} (k : Nat) (hx : x < 9218868437227405312) (hy : y < 9218868437227405312) (hb0 : 0 < b) (hb : b < 9218868437227405312)
    (hv : (sigW x * sigW y = sigW b * 2 ^ k ∧ (upW x : Int) + upW y - 1074 = (upW b : Int) - k) ∨ (sigW b = sigW x * sigW y * 2 ^ k ∧ (upW x : Int) + upW y - 1074 = (upW b : Int) + k)) :
    Ieee.double.mul x y = some b := by
  unfold Ieee.Format.mul
  rw [read_fin hx, read_fin hy]
  show some (Ieee.double.nearest (false ^^ false) (sigW x * sigW y) ((upW x : Int) - 1074 + ((upW y : Int) - 1074))) = some b
  have hg := put_get b
  rw [nearest_exact _ _ (sigW b) (upW b) k _ (sig_pos hb0) (sig_lt b) (sig_norm b) (by
    rcases hv with ⟨h1, h2⟩ | ⟨h1, h2⟩
    · exact .inl ⟨h1, by omega⟩
    · exact .inr ⟨h1, by omega⟩) (by omega), hg]
  rfl
theorem mul_neg_one {b : Nat} (hb0 : 0 < b) (hb : b < 9218868437227405312) : Ieee.double.mul 13830554455654793216 b = some (9223372036854775808 + b) := by
  have e : Ieee.double.read 13830554455654793216 = .number true 4503599627370496 ((1022 : Nat) - 1074 : Int) := by decide +kernel
  unfold Ieee.Format.mul
  rw [read_fin hb, e]
  show some (Ieee.double.nearest (true ^^ false) (4503599627370496 * sigW b) ((1022 : Nat) - 1074 + ((upW b : Int) - 1074))) = some _
  have hg := put_get b
  rw [nearest_exact _ _ (sigW b) (upW b) 52 _ (sig_pos hb0) (sig_lt b) (sig_norm b) (.inl ⟨by omega, by omega⟩) (by omega), hg, word_lit]
  rfl
theorem mul_one {b : Nat} (hb0 : 0 < b) (hb : b < 9218868437227405312) : Ieee.double.mul 4607182418800017408 b = some b := by
  have e := sig_put (M := 4503599627370496) (u := 1022) (by decide) (by decide)
  have e1 : sigW 4607182418800017408 = 4503599627370496 := e.1
  have e2 : upW 4607182418800017408 = 1022 := e.2
  exact mul_exact 52 (by decide) hb hb0 hb (.inl ⟨by rw [e1]; omega, by rw [e2]; omega⟩)
theorem nearest_le (mag : Nat) (place : Int) : Ieee.double.nearest false mag place ≤ 9218868437227405312 := by
  unfold Ieee.Format.nearest
  split
  · rw [word_lit, if_neg (by decide)]; exact Nat.zero_le _
  · simp only [inf_double, word_lit, Bool.false_eq_true, if_false]
    exact Nat.min_le_right _ _
/-- Of two that are finite there is a product. -/
theorem mul_some {x y : Nat} (hx : x < 9218868437227405312) (hy : y < 9218868437227405312) : ∃ r, Ieee.double.mul x y = some r ∧ r ≤ 9218868437227405312 := by
  unfold Ieee.Format.mul
  rw [read_fin hx, read_fin hy]
  exact ⟨_, rfl, nearest_le _ _⟩
/-- A whole number as a float. -/
def intW (n : Nat) : Nat := (n.log2 + 1022) * 4503599627370496 + n * 2 ^ (52 - n.log2)
theorem int_log {n : Nat} (h : n < 9007199254740992) (h0 : n ≠ 0) : n.log2 ≤ 52 := by
  have h1 := log_lo h0
  rcases Nat.lt_or_ge 52 n.log2 with h2 | h2
  · have := Nat.pow_le_pow_right (n := 2) (by decide) (show 53 ≤ n.log2 from h2); omega
  · exact h2
theorem norm_rng {n : Nat} (h : n < 9007199254740992) (h0 : n ≠ 0) : 4503599627370496 ≤ n * 2 ^ (52 - n.log2) ∧ n * 2 ^ (52 - n.log2) < 9007199254740992 := by
  have hl := int_log h h0
  have h1 := Nat.mul_le_mul_right (2 ^ (52 - n.log2)) (log_lo h0)
  have h2 := Nat.mul_lt_mul_of_pos_right (log_hi h0) (Nat.two_pow_pos (52 - n.log2))
  rw [← Nat.pow_add] at h1 h2
  rw [show n.log2 + (52 - n.log2) = 52 by omega] at h1
  rw [show n.log2 + 1 + (52 - n.log2) = 53 by omega] at h2
  exact ⟨h1, h2⟩
theorem near_int {n : Nat} (h : n < 9007199254740992) (h0 : n ≠ 0) : FloatKind.f64.nearest (n : Int) = intW n := by
  have hl := int_log h h0
  obtain ⟨h1, h2⟩ := norm_rng h h0
  show Ieee.double.nearest (decide ((n : Int) < 0)) (n : Int).natAbs 0 = _
  have e : decide ((n : Int) < 0) = false := decide_eq_false (by omega)
  rw [e, Int.natAbs_natCast, nearest_exact false n (n * 2 ^ (52 - n.log2)) (n.log2 + 1022) (52 - n.log2) 0 (by omega) h2 (.inl h1) (.inr ⟨rfl, by omega⟩) (by omega), word_lit]
  rfl
theorem near_zero : FloatKind.f64.nearest 0 = 0 := by decide +kernel
theorem int_sig {n : Nat} (h : n < 9007199254740992) (h0 : n ≠ 0) : sigW (intW n) = n * 2 ^ (52 - n.log2) ∧ upW (intW n) = n.log2 + 1022 :=
  sig_put (norm_rng h h0).1 (norm_rng h h0).2
/-- A float as a whole number. -/
theorem float_int {b : Nat} (h1 : 4841369599423283200 ≤ b) (h2 : b < 4845873199050653696) : (FloatKind.f64.decode b).toInt .zero = some ((sigW b : Nat) : Int) := by
  have e2 : upW b = 1074 := by unfold upW; rw [if_neg (by omega)]; omega
  show (Ieee.double.read b).toInt .zero = _
  rw [read_fin (by omega), e2]
  show some (Ieee.signed false (Ieee.Toward.zero.cut false (sigW b <<< ((1074 : Nat) - 1074 : Int).toNat) (-((1074 : Nat) - 1074 : Int)).toNat) 0) = _
  have e3 : ((1074 : Nat) - 1074 : Int).toNat = 0 := by decide
  have e4 : (-((1074 : Nat) - 1074 : Int)).toNat = 0 := by decide
  have e5 := cut_exact .zero false (sigW b) 0 (by have := sig_pos (b := b) (by omega); omega)
  rw [Nat.pow_zero, Nat.mul_one] at e5
  rw [e3, e4, Nat.shiftLeft_zero, e5]
  show some (((sigW b <<< 0 : Nat)) : Int) = _
  rw [Nat.shiftLeft_zero]
/-- The odd part of a number, and its place. -/
def tzW (x : Nat) : Nat := Lib.ctz 64 x
theorem odd_split {x : Nat} (h0 : x ≠ 0) (h : x < 18446744073709551616) : ∃ o, x = o * 2 ^ tzW x ∧ o % 2 = 1 ∧ tzW x < 64 := by
  obtain ⟨m, h1, h2⟩ := Lib.ctzFrom_spec 64 x (by omega) h
  have e : tzW x = Lib.ctzFrom 64 x := by unfold tzW Lib.ctz; rw [if_neg h0]
  rw [e]
  refine ⟨2 * m + 1, ?_, by omega, h2⟩
  rw [Nat.mul_comm]; exact h1
theorem odd_inj : ∀ {c d o p : Nat}, o * 2 ^ c = p * 2 ^ d → o % 2 = 1 → p % 2 = 1 → c = d ∧ o = p
  | 0, 0, o, p, h, _, _ => ⟨rfl, by simpa using h⟩
  | 0, d + 1, o, p, h, ho, hp => by
    rw [Nat.pow_succ, ← Nat.mul_assoc] at h
    omega
  | c + 1, 0, o, p, h, ho, hp => by
    rw [Nat.pow_succ, ← Nat.mul_assoc] at h
    omega
  | c + 1, d + 1, o, p, h, ho, hp => by
    rw [Nat.pow_succ, Nat.pow_succ, ← Nat.mul_assoc, ← Nat.mul_assoc] at h
    obtain ⟨h1, h2⟩ := odd_inj (Nat.eq_of_mul_eq_mul_right (by decide) h) ho hp
    exact ⟨by omega, h2⟩
theorem tz_of_odd {o c : Nat} (ho : o % 2 = 1) (h : o * 2 ^ c < 18446744073709551616) : tzW (o * 2 ^ c) = c := by
  have h0 : o * 2 ^ c ≠ 0 := by have := Nat.mul_pos (show 0 < o by omega) (Nat.two_pow_pos c); omega
  obtain ⟨p, h1, h2, -⟩ := odd_split h0 h
  exact (odd_inj h1 ho h2).1.symm
/-- A float's parts: an odd number, and a power of two. -/
def oddW (b : Nat) : Nat := sigW b / 2 ^ tzW (sigW b)
def powW (b : Nat) : Int := (upW b : Int) - 1074 + (tzW (sigW b) : Nat)
theorem odd_spec {b : Nat} (h : 0 < b) : sigW b = oddW b * 2 ^ tzW (sigW b) ∧ oddW b % 2 = 1 ∧ tzW (sigW b) < 53 := by
  have hs := sig_pos h
  have hl := sig_lt b
  obtain ⟨o, h1, h2, h3⟩ := odd_split (x := sigW b) (by omega) (by omega)
  have e : oddW b = o := by
    unfold oddW
    conv => lhs; arg 1; rw [h1]
    exact Nat.mul_div_cancel _ (Nat.two_pow_pos _)
  rw [e]
  refine ⟨h1, h2, ?_⟩
  rcases Nat.lt_or_ge (tzW (sigW b)) 53 with h4 | h4
  · exact h4
  · have h5 := Nat.pow_le_pow_right (n := 2) (by decide) h4
    have h6 := Nat.mul_le_mul (show 1 ≤ o by omega) h5
    omega
theorem odd_lt {b : Nat} (h : 0 < b) : oddW b < 9007199254740992 ∧ 0 < oddW b := by
  obtain ⟨h1, h2, -⟩ := odd_spec h
  have h3 := sig_lt b
  have h4 := Nat.le_mul_of_pos_right (oddW b) (Nat.two_pow_pos (tzW (sigW b)))
  omega
/-- The word is what its parts say. -/
theorem parts_inj {a b : Nat} (ha : 0 < a) (hb : 0 < b) (h1 : oddW a = oddW b) (h2 : powW a = powW b) : a = b := by
  obtain ⟨a1, a2, a3⟩ := odd_spec ha
  obtain ⟨b1, b2, b3⟩ := odd_spec hb
  have pa := put_get a
  have pb := put_get b
  have key : ∀ x y : Nat, 0 < x → 0 < y → oddW x = oddW y → powW x = powW y → tzW (sigW x) < tzW (sigW y) → False := by
    intro x y hx hy h1 h2 h3
    obtain ⟨x1, x2, -⟩ := odd_spec hx
    obtain ⟨y1, y2, -⟩ := odd_spec hy
    have hsy := sig_lt y
    have hu : upW y < upW x := by unfold powW at h2; omega
    have hnx : 4503599627370496 ≤ sigW x := by rcases sig_norm x with h | h <;> omega
    obtain ⟨d, hd⟩ : ∃ d, tzW (sigW y) = tzW (sigW x) + 1 + d := ⟨tzW (sigW y) - tzW (sigW x) - 1, by omega⟩
    have e : sigW y = sigW x * 2 * 2 ^ d := by
      rw [y1, ← h1, hd, Nat.pow_add, Nat.pow_succ]
      conv => rhs; rw [x1]
      simp only [Nat.mul_assoc]
    have h6 := Nat.le_mul_of_pos_right (sigW x * 2) (Nat.two_pow_pos d)
    omega
  rcases Nat.lt_trichotomy (tzW (sigW a)) (tzW (sigW b)) with h | h | h
  · exact absurd (key a b ha hb h1 h2 h) id
  · have hs : sigW a = sigW b := by rw [a1, b1, h1, h]
    have hu : upW a = upW b := by unfold powW at h2; omega
    rw [← pa, ← pb, hs, hu]
  · exact absurd (key b a hb ha h1.symm h2.symm h) id
end Go.Proofs.YtckcadhjpjjmjaaDoor
namespace Go.Proofs.YtckcadhjpjjmjaaDoor
open Go.RowKit
/-- A number's text. -/
def absT (b : Nat) : List UInt8 := if b = 9218868437227405312 then [105, 110, 102] else if b = 0 then [48] else Lib.decDigits (oddW b) ++ 112 :: Lib.itoa (powW b)
def ctext (f : Nat) : List UInt8 := if nanD f = true then [] else (if 9223372036854775808 ≤ f then [45] else []) ++ absT (f % 9223372036854775808)
theorem nan_iff (f : Nat) : nanD f = decide (9218868437227405312 < f % 9223372036854775808) := by rw [nanD, inf_double, rungW, sw_double]
/-- What Ldexp makes of a float that isn't small. -/
def mulR (x y : Nat) : Nat := (Ieee.double.mul x y).getD 0
def ldE (x : Nat) (p : Int) : Int := IntKind.i64.wrap (p + ((x / 4503599627370496 : Nat) - 1023))
def ldW (x : Nat) (p : Int) : Nat :=
  if ldE x p < -1075 then 0 else if 1023 < ldE x p then 9218868437227405312
  else if ldE x p < -1022 then mulR 4368491638549381120 (x % 4503599627370496 + (ldE x p + 1076).toNat * 4503599627370496)
  else mulR 4607182418800017408 (x % 4503599627370496 + (ldE x p + 1023).toNat * 4503599627370496)
theorem mulR_le {x y : Nat} (hx : x < 9218868437227405312) (hy : y < 9218868437227405312) : mulR x y ≤ 9218868437227405312 := by
  obtain ⟨r, h1, h2⟩ := mul_some hx hy
  rw [mulR, h1]; exact h2
theorem ldW_le (x : Nat) (p : Int) : ldW x p ≤ 9218868437227405312 := by
  unfold ldW
  split
  · decide
  · split
    · exact Nat.le_refl _
    · split
      · exact mulR_le (by decide) (by omega)
      · exact mulR_le (by decide) (by omega)
theorem wrap_i64 {n : Int} (h1 : -9223372036854775808 ≤ n) (h2 : n < 9223372036854775808) : IntKind.i64.wrap n = n := by
  rw [IntKind.wrap_i64]; omega
theorem log_odd {b : Nat} (h : 0 < b) : (oddW b).log2 + tzW (sigW b) = (sigW b).log2 ∧ (sigW b).log2 ≤ 52 := by
  obtain ⟨h1, h2, h3⟩ := odd_spec h
  have h4 := log_mul (tzW (sigW b)) (show oddW b ≠ 0 by omega)
  rw [← h1] at h4
  exact ⟨h4.symm, int_log (sig_lt b) (by have := sig_pos h; omega)⟩
/-- A float comes back from its parts. -/
theorem ld_exact {b : Nat} (h0 : 0 < b) (hb : b < 9218868437227405312) : ldW (intW (oddW b)) (powW b) = b := by
  obtain ⟨h1, h2, h3⟩ := odd_spec h0
  obtain ⟨ho, ho0⟩ := odd_lt h0
  obtain ⟨hl, hs⟩ := log_odd h0
  obtain ⟨i1, i2⟩ := int_sig ho (by omega)
  obtain ⟨n1, n2⟩ := norm_rng ho (by omega)
  have hu := up_lt hb
  have hg := put_get b
  obtain ⟨K, hK⟩ : ∃ K, oddW b * 2 ^ (52 - (oddW b).log2) = K := ⟨_, rfl⟩
  rw [hK] at i1 n1 n2
  have hx : intW (oddW b) = ((oddW b).log2 + 1022) * 4503599627370496 + K := by rw [intW, hK]
  have hxd : intW (oddW b) / 4503599627370496 = (oddW b).log2 + 1023 := by rw [hx]; omega
  have hxm : intW (oddW b) % 4503599627370496 = K - 4503599627370496 := by rw [hx]; omega
  have hE : ldE (intW (oddW b)) (powW b) = powW b + (oddW b).log2 := by
    rw [ldE, hxd, wrap_i64 (by unfold powW; omega) (by unfold powW; omega)]
    omega
  unfold ldW
  rw [hE, hxm]
  have hp : powW b + ((oddW b).log2 : Int) = (upW b : Int) - 1074 + (sigW b).log2 := by unfold powW; omega
  rw [hp]
  rcases Nat.lt_or_ge (sigW b) 4503599627370496 with hsub | hnorm
  · have hu0 : upW b = 0 := by rcases sig_norm b with h | h <;> omega
    have hlt : (sigW b).log2 < 52 := by
      have h5 := log_lo (n := sigW b) (by have := sig_pos h0; omega)
      rcases Nat.lt_or_ge (sigW b).log2 52 with h | h
      · exact h
      · have := Nat.pow_le_pow_right (n := 2) (by decide) h; omega
    rw [if_neg (by omega), if_neg (by omega), if_pos (by omega)]
    have e : ((upW b : Int) - 1074 + (sigW b).log2 + 1076).toNat = (sigW b).log2 + 2 := by omega
    rw [e]
    have ey : K - 4503599627370496 + ((sigW b).log2 + 2) * 4503599627370496 = ((sigW b).log2 + 1) * 4503599627370496 + K := by omega
    rw [ey]
    obtain ⟨q1, q2⟩ := sig_put (u := (sigW b).log2 + 1) n1 n2
    have e1 : sigW 4368491638549381120 = 4503599627370496 := by decide +kernel
    have e2 : upW 4368491638549381120 = 969 := by decide +kernel
    have hKs : K = sigW b * 2 ^ (52 - (sigW b).log2) := by
      have e3 : 52 - (oddW b).log2 = tzW (sigW b) + (52 - (sigW b).log2) := by omega
      rw [← hK, e3, Nat.pow_add, ← Nat.mul_assoc, ← h1]
    rw [mulR, mul_exact (b := b) (52 + (52 - (sigW b).log2)) (by decide) (by omega) h0 hb (.inl ⟨by
      have e5 : (2 : Nat) ^ 52 = 4503599627370496 := by decide
      rw [e1, q1, hKs, Nat.pow_add, e5, Nat.mul_left_comm], by
      rw [e2, q2]; omega⟩)]
    rfl
  · have hl52 : (sigW b).log2 = 52 := log_of (by omega) (by have := sig_lt b; omega)
    have hKs : K = sigW b := by
      have e3 : 52 - (oddW b).log2 = tzW (sigW b) := by omega
      rw [← hK, e3, ← h1]
    rw [if_neg (by omega), if_neg (by omega), if_neg (by omega)]
    have ey : K - 4503599627370496 + ((upW b : Int) - 1074 + (sigW b).log2 + 1023).toNat * 4503599627370496 = b := by
      have e : ((upW b : Int) - 1074 + (sigW b).log2 + 1023).toNat = upW b + 1 := by omega
      rw [e]; omega
    rw [ey, mulR, mul_one h0 hb]; rfl
/-- A text up to its first p, and behind it. -/
def cutH (r : List UInt8) : List UInt8 := r.takeWhile (· != 112)
def cutT (r : List UInt8) : List UInt8 := (r.dropWhile (· != 112)).tail
def headN (h : List UInt8) : Nat := (puU 10 9007199254740991 h).1
def candA (r : List UInt8) : Nat := if r = [105, 110, 102] then 9218868437227405312 else if headN (cutH r) = 0 then 0 else ldW (intW (headN (cutH r))) (atoiV (cutT r))
/-- What the program reads out of a text, whatever it is. -/
def candB (s : List UInt8) : Nat := if s.head? = some 45 then 9223372036854775808 + candA s.tail else candA s
def parseB (s : List UInt8) : Option Nat := if s = [] then none else if ctext (candB s) = s then some (candB s) else none
theorem candA_le (r : List UInt8) : candA r ≤ 9218868437227405312 := by
  unfold candA
  split
  · exact Nat.le_refl _
  · split
    · decide
    · exact ldW_le _ _
theorem candB_lt (s : List UInt8) : candB s < 18446744073709551616 := by
  unfold candB
  split
  · have := candA_le s.tail; omega
  · have := candA_le s; omega
theorem cut_app {h t : List UInt8} (hh : ∀ x ∈ h, x ≠ 112) : cutH (h ++ 112 :: t) = h ∧ cutT (h ++ 112 :: t) = t := by
  induction h with
  | nil => exact ⟨rfl, rfl⟩
  | cons x h ih =>
    obtain ⟨h1, h2⟩ := ih (fun y hy => hh y (List.mem_cons_of_mem _ hy))
    have hx : (x != 112) = true := by have := hh x List.mem_cons_self; simpa using this
    constructor
    · show cutH (x :: (h ++ 112 :: t)) = _
      unfold cutH at h1 ⊢
      rw [List.takeWhile_cons, if_pos hx, h1]
    · show cutT (x :: (h ++ 112 :: t)) = _
      unfold cutT at h2 ⊢
      rw [List.dropWhile_cons, if_pos hx, h2]
theorem cut_of {r : List UInt8} (h : (112 : UInt8) ∈ r) : r = cutH r ++ 112 :: cutT r := by
  induction r with
  | nil => cases h
  | cons x r ih =>
    by_cases hx : x = 112
    · subst hx; rfl
    · have hb : (x != 112) = true := by simpa using hx
      have h2 := ih (by rcases List.mem_cons.1 h with e | e; exact absurd e.symm hx; exact e)
      have e1 : cutH (x :: r) = x :: cutH r := by unfold cutH; rw [List.takeWhile_cons, if_pos hb]
      have e2 : cutT (x :: r) = cutT r := by unfold cutT; rw [List.dropWhile_cons, if_pos hb]
      rw [e1, e2, List.cons_append, ← h2]
theorem dec_no112 (u : Nat) : ∀ x ∈ Lib.decDigits u, x ≠ 112 := fun x hx e => by
  have := dec_digits u x hx
  rw [e] at this
  exact absurd this.2 (by decide)
theorem dec_head (u : Nat) (t : List UInt8) : ∃ c r, Lib.decDigits u ++ t = c :: r ∧ 48 ≤ c.toNat ∧ c.toNat ≤ 57 := by
  cases hd : Lib.decDigits u with
  | nil => exact absurd hd (dec_ne u)
  | cons c r =>
    have := dec_digits u c (by rw [hd]; exact List.mem_cons_self)
    exact ⟨c, r ++ t, rfl, this.1, this.2⟩
theorem pow_rng {b : Nat} (h0 : 0 < b) (hb : b < 9218868437227405312) : -1074 ≤ powW b ∧ powW b ≤ 1023 := by
  obtain ⟨hl, hs⟩ := log_odd h0
  have hu := up_lt hb
  unfold powW
  constructor <;> omega
theorem absT_fin {b : Nat} (h0 : 0 < b) (hb : b < 9218868437227405312) : absT b = Lib.decDigits (oddW b) ++ 112 :: Lib.itoa (powW b) := by
  rw [absT, if_neg (by omega), if_neg (by omega)]
theorem absT_head (b : Nat) : (absT b).head? ≠ some 45 ∧ absT b ≠ [] := by
  unfold absT
  split
  · decide
  · split
    · decide
    · obtain ⟨c, r, h1, h2, h3⟩ := dec_head (oddW b) (112 :: Lib.itoa (powW b))
      rw [h1]
      refine ⟨fun e => ?_, by simp⟩
      have : c = 45 := by simpa using e
      rw [this] at h2
      exact absurd h2 (by decide)
theorem candA_abs {b : Nat} (hb : b ≤ 9218868437227405312) : candA (absT b) = b := by
  by_cases h1 : b = 9218868437227405312
  · subst h1; rfl
  · by_cases h0 : b = 0
    · subst h0; decide +kernel
    · have hf := absT_fin (b := b) (by omega) (by omega)
      obtain ⟨c1, c2⟩ := cut_app (h := Lib.decDigits (oddW b)) (t := Lib.itoa (powW b)) (dec_no112 _)
      obtain ⟨p1, p2⟩ := pow_rng (b := b) (by omega) (by omega)
      obtain ⟨o1, o2⟩ := odd_lt (b := b) (by omega)
      obtain ⟨c, r, d1, d2, d3⟩ := dec_head (oddW b) (112 :: Lib.itoa (powW b))
      rw [hf, candA, c1, c2, headN, puU_dec (by omega), if_neg (by rw [d1]; intro e; have : c = 105 := by simpa using (List.cons.inj e).1
                                                                   rw [this] at d3; exact absurd d3 (by decide)), if_neg (by omega), atoi_itoa (by omega) (by omega)]
      exact ld_exact (by omega) (by omega)
/-- What was written is read. -/
theorem cand_text {f : Nat} (hf : f < 18446744073709551616) (hn : nanD f = false) : candB (ctext f) = f ∧ ctext f ≠ [] := by
  have hb : f % 9223372036854775808 ≤ 9218868437227405312 := by
    rw [nan_iff] at hn
    have := of_decide_eq_false hn
    omega
  rw [ctext, if_neg (by rw [hn]; decide)]
  obtain ⟨hh, hne⟩ := absT_head (f % 9223372036854775808)
  have hc := candA_abs hb
  by_cases hm : 9223372036854775808 ≤ f
  · rw [if_pos hm]
    refine ⟨?_, by simp⟩
    show candB (45 :: absT _) = f
    rw [candB, List.head?_cons, if_pos rfl]
    show _ + candA (absT _) = f
    rw [hc]; omega
  · rw [if_neg hm, List.nil_append]
    refine ⟨?_, hne⟩
    rw [candB, if_neg hh, hc]; omega
theorem text_inj {f g : Nat} (hf : f < 18446744073709551616) (hg : g < 18446744073709551616) (nf : nanD f = false) (ng : nanD g = false) (h : ctext f = ctext g) : f = g := by
  rw [← (cand_text hf nf).1, h, (cand_text hg ng).1]
/-- The document's: digits, a number of an odd one and a power. -/
def foldN (s : List UInt8) : Nat := s.foldl (fun n b => n * 10 + (b.toNat - 48)) 0
theorem foldN_dec : ∀ u : Nat, foldN (Lib.decDigits u) = u := by
  intro u
  induction u using Nat.strongRecOn with
  | _ u ih =>
    by_cases h : u < 10
    · rw [dec_lt h]
      show 0 * 10 + ((UInt8.ofNat (48 + u)).toNat - 48) = u
      rw [digit_of h]; omega
    · rw [dec_ge h, foldN, List.foldl_append]
      show foldN (Lib.decDigits (u / 10)) * 10 + ((UInt8.ofNat (48 + u % 10)).toNat - 48) = u
      rw [ih (u / 10) (by omega), digit_of (by omega)]; omega
def digD (most : Nat) (s : List UInt8) : Option Nat := if s.length ≤ most ∧ Lib.decDigits (foldN s) = s then some (foldN s) else none
theorem digD_some {most : Nat} {s : List UInt8} {n : Nat} (h : digD most s = some n) : s = Lib.decDigits n ∧ s.length ≤ most := by
  unfold digD at h
  split at h
  · rename_i h1
    rw [Option.some.inj h] at h1
    exact ⟨h1.2.symm, h1.1⟩
  · cases h
theorem digD_dec {most u : Nat} (h : (Lib.decDigits u).length ≤ most) : digD most (Lib.decDigits u) = some u := by
  rw [digD, foldN_dec, if_pos ⟨h, rfl⟩]
def ofJ (m : Nat) (p : Int) : Nat := min (52 - m.log2) (p + 1074).toNat
def ofB (m : Nat) (p : Int) : Option Nat :=
  if m % 2 = 1 ∧ m < 9007199254740992 ∧ -1074 ≤ p ∧ p ≤ 1023 ∧ p - ofJ m p ≤ 971 then some ((p - ofJ m p + 1074).toNat * 4503599627370496 + m * 2 ^ ofJ m p) else none
theorem of_some {m b : Nat} {p : Int} (h : ofB m p = some b) : 0 < b ∧ b < 9218868437227405312 ∧ oddW b = m ∧ powW b = p := by
  unfold ofB at h
  split at h
  · rename_i hc
    obtain ⟨c1, c2, c3, c4, c5⟩ := hc
    have hl := int_log c2 (by omega)
    obtain ⟨n1, n2⟩ := norm_rng c2 (by omega)
    obtain ⟨j, hj⟩ : ∃ j, ofJ m p = j := ⟨_, rfl⟩
    have hj1 : j ≤ 52 - m.log2 := by rw [← hj]; exact Nat.min_le_left _ _
    have hj2 : (j : Int) ≤ p + 1074 := by rw [← hj]; unfold ofJ; omega
    have hj3 : j = 52 - m.log2 ∨ (j : Int) = p + 1074 := by rw [← hj]; unfold ofJ; omega
    rw [hj] at h c5
    obtain ⟨M, hM⟩ : ∃ M, m * 2 ^ j = M := ⟨_, rfl⟩
    have hMlt : M < 9007199254740992 := by
      have := Nat.mul_le_mul_left m (Nat.pow_le_pow_right (n := 2) (by decide) hj1)
      omega
    have hM0 : 0 < M := by rw [← hM]; exact Nat.mul_pos (by omega) (Nat.two_pow_pos j)
    rw [hM] at h
    obtain ⟨u, hu⟩ : ∃ u : Nat, (u : Int) = p - j + 1074 := ⟨(p - j + 1074).toNat, by omega⟩
    rw [← hu, Int.toNat_natCast] at h
    have hbb : u * 4503599627370496 + M = b := Option.some.inj h
    have hs : sigW b = M ∧ upW b = u := by
      rcases Nat.lt_or_ge M 4503599627370496 with h1 | h1
      · have hu0 : u = 0 := by
          rcases hj3 with h2 | h2
          · rw [← h2] at n1; omega
          · omega
        rw [← hbb, hu0, Nat.zero_mul, Nat.zero_add]
        exact sig_sub h1
      · rw [← hbb]; exact sig_put h1 hMlt
    have ht : tzW (sigW b) = j := by rw [hs.1, ← hM]; exact tz_of_odd c1 (by omega)
    refine ⟨by omega, by omega, ?_, ?_⟩
    · rw [oddW, ht, hs.1, ← hM]; exact Nat.mul_div_cancel _ (Nat.two_pow_pos j)
    · rw [powW, ht, hs.2]; omega
  · cases h
theorem of_parts {b : Nat} (h0 : 0 < b) (hb : b < 9218868437227405312) : ofB (oddW b) (powW b) = some b := by
  obtain ⟨h1, h2, h3⟩ := odd_spec h0
  obtain ⟨ho, ho0⟩ := odd_lt h0
  obtain ⟨hl, hs⟩ := log_odd h0
  obtain ⟨p1, p2⟩ := pow_rng h0 hb
  have hu := up_lt hb
  have hg := put_get b
  have hj : ofJ (oddW b) (powW b) = tzW (sigW b) := by
    unfold ofJ powW
    rcases sig_norm b with h | h
    · have hl52 : (sigW b).log2 = 52 := log_of (by omega) (by have := sig_lt b; omega)
      omega
    · omega
  have he : powW b - (tzW (sigW b) : Nat) = (upW b : Int) - 1074 := by unfold powW; omega
  rw [ofB, hj, he, if_pos ⟨h2, ho, p1, p2, by omega⟩, ← h1]
  have e1 : ((upW b : Int) - 1074 + 1074).toNat = upW b := by omega
  rw [e1, hg]
/-- What the document reads out of a text. -/
def rneg (t : List UInt8) : Bool := decide (1 < t.length) && (t.head? == some 45) && !(t == [45, 48])
def rpow (t : List UInt8) : List UInt8 × Int := if rneg t = true then (t.tail, -1) else (t, 1)
def rabs (r : List UInt8) : Option Nat := if (112 : UInt8) ∈ r then (match digD 16 (cutH r), digD 4 (rpow (cutT r)).1 with
  | some m, some p => ofB m ((rpow (cutT r)).2 * p)
  | _, _ => none) else none
def rparseB (s : List UInt8) : Option Nat :=
  if s = ctext 0 then some 0 else if s = ctext 9223372036854775808 then some 9223372036854775808
  else if s = ctext 9218868437227405312 then some 9218868437227405312 else if s = ctext 18442240474082181120 then some 18442240474082181120
  else if s.head? = some 45 then (rabs s.tail).map (9223372036854775808 + ·) else rabs s
theorem rpow_itoa {p : Int} (h1 : -1074 ≤ p) (h2 : p ≤ 1023) : digD 4 (rpow (Lib.itoa p)).1 = some p.natAbs ∧ (rpow (Lib.itoa p)).2 * (p.natAbs : Int) = p := by
  unfold Lib.itoa
  by_cases hn : p < 0
  · rw [if_pos hn]
    have e : rneg (45 :: Lib.decDigits p.natAbs) = true := by
      unfold rneg
      have hne := dec_ne p.natAbs
      have hl : 1 < (45 :: Lib.decDigits p.natAbs : List UInt8).length := by
        have : 0 < (Lib.decDigits p.natAbs).length := List.length_pos_iff.2 hne
        rw [List.length_cons]; omega
      have hz : Lib.decDigits p.natAbs ≠ [48] := fun e => by
        have e0 : Lib.decDigits 0 = [48] := by rw [dec_lt (by decide)]; rfl
        have := dec_inj (e.trans e0.symm)
        omega
      rw [decide_eq_true hl]
      simp [hz]
    rw [rpow, if_pos e]
    exact ⟨digD_dec (dec_len_le 4 _ (by omega) (by decide)), by show -1 * (p.natAbs : Int) = p; omega⟩
  · rw [if_neg hn]
    have hpn : p.toNat = p.natAbs := by omega
    obtain ⟨c, r, d1, d2, d3⟩ := dec_head p.toNat []
    rw [List.append_nil] at d1
    have e : rneg (Lib.decDigits p.toNat) = false := by
      unfold rneg
      rw [d1]
      have : (c == 45) = false := beq_eq_false_iff_ne.2 fun e => by rw [e] at d2; exact absurd d2 (by decide)
      simp [this]
    rw [rpow, if_neg (by rw [e]; decide)]
    exact ⟨by rw [hpn]; exact digD_dec (dec_len_le 4 _ (by omega) (by decide)), by show 1 * (p.natAbs : Int) = p; omega⟩
theorem rpow_back {t : List UInt8} {p : Nat} (h : digD 4 (rpow t).1 = some p) : Lib.itoa ((rpow t).2 * (p : Int)) = t := by
  cases hn : rneg t with
  | true =>
    have e : rpow t = (t.tail, -1) := by rw [rpow, if_pos hn]
    rw [e] at h ⊢
    obtain ⟨h1, -⟩ := digD_some h
    unfold rneg at hn
    simp only [Bool.and_eq_true, decide_eq_true_eq, beq_iff_eq, Bool.not_eq_true', beq_eq_false_iff_ne] at hn
    obtain ⟨⟨n1, n2⟩, n3⟩ := hn
    cases t with
    | nil => cases n2
    | cons c r =>
      have hc : c = 45 := by simpa using n2
      subst hc
      have h1' : r = Lib.decDigits p := h1
      have hp : p ≠ 0 := fun e0 => n3 (by rw [h1', e0, dec_lt (by decide)]; rfl)
      show Lib.itoa (-1 * (p : Int)) = _
      have : -1 * (p : Int) = -(p : Int) := by omega
      rw [this, Lib.itoa, if_pos (by omega), Int.natAbs_neg, Int.natAbs_natCast, h1']
  | false =>
    have e : rpow t = (t, 1) := by rw [rpow, if_neg (by rw [hn]; decide)]
    rw [e] at h ⊢
    obtain ⟨h1, -⟩ := digD_some h
    show Lib.itoa (1 * (p : Int)) = t
    have : 1 * (p : Int) = (p : Int) := by omega
    rw [this, Lib.itoa, if_neg (by omega), Int.toNat_natCast]; exact h1.symm
theorem rabs_abs {b : Nat} (h0 : 0 < b) (hb : b < 9218868437227405312) : rabs (absT b) = some b := by
  obtain ⟨c1, c2⟩ := cut_app (h := Lib.decDigits (oddW b)) (t := Lib.itoa (powW b)) (dec_no112 _)
  obtain ⟨p1, p2⟩ := pow_rng h0 hb
  obtain ⟨o1, o2⟩ := odd_lt h0
  obtain ⟨r1, r2⟩ := rpow_itoa p1 p2
  rw [absT_fin h0 hb, rabs, if_pos (by simp), c1, c2, digD_dec (dec_len_le 16 _ (by omega) (by decide)), r1]
  show ofB (oddW b) ((rpow (Lib.itoa (powW b))).2 * ((powW b).natAbs : Int)) = _
  rw [r2]; exact of_parts h0 hb
theorem rabs_back {r : List UInt8} {b : Nat} (h : rabs r = some b) : 0 < b ∧ b < 9218868437227405312 ∧ absT b = r := by
  unfold rabs at h
  split at h
  · rename_i hm
    split at h
    · rename_i m p h1 h2
      obtain ⟨b0, b1, b2, b3⟩ := of_some h
      obtain ⟨d1, -⟩ := digD_some h1
      refine ⟨b0, b1, ?_⟩
      rw [absT_fin b0 b1, b2, b3, rpow_back h2, ← d1]
      exact (cut_of hm).symm
    · cases h
  · cases h
theorem ctext_pos {b : Nat} (hb : b ≤ 9218868437227405312) : ctext b = absT b ∧ ctext (9223372036854775808 + b) = 45 :: absT b ∧ nanD b = false ∧ nanD (9223372036854775808 + b) = false := by
  have n1 : nanD b = false := by rw [nan_iff]; exact decide_eq_false (by omega)
  have n2 : nanD (9223372036854775808 + b) = false := by rw [nan_iff]; exact decide_eq_false (by omega)
  refine ⟨?_, ?_, n1, n2⟩
  · rw [ctext, if_neg (by rw [n1]; decide), if_neg (by omega), List.nil_append, show b % 9223372036854775808 = b by omega]
  · rw [ctext, if_neg (by rw [n2]; decide), if_pos (by omega), show (9223372036854775808 + b) % 9223372036854775808 = b by omega]; rfl
theorem rparse_back {s : List UInt8} {f : Nat} (h : rparseB s = some f) : s = ctext f ∧ f < 18446744073709551616 ∧ nanD f = false := by
  unfold rparseB at h
  split at h
  · rename_i e; rw [← Option.some.inj h]; exact ⟨e, by decide, by decide +kernel⟩
  · split at h
    · rename_i e; rw [← Option.some.inj h]; exact ⟨e, by decide, by decide +kernel⟩
    · split at h
      · rename_i e; rw [← Option.some.inj h]; exact ⟨e, by decide, by decide +kernel⟩
      · split at h
        · rename_i e; rw [← Option.some.inj h]; exact ⟨e, by decide, by decide +kernel⟩
        · split at h
          · rename_i hh
            cases hr : rabs s.tail with
            | none => rw [hr] at h; cases h
            | some b =>
              rw [hr] at h
              have hf : 9223372036854775808 + b = f := Option.some.inj h
              obtain ⟨b0, b1, b2⟩ := rabs_back hr
              obtain ⟨-, c2, -, c4⟩ := ctext_pos (b := b) (by omega)
              rw [← hf]
              refine ⟨?_, by omega, c4⟩
              rw [c2, b2]
              cases s with
              | nil => cases hh
              | cons c r => have : c = 45 := by simpa using hh
                            rw [this]; rfl
          · obtain ⟨b0, b1, b2⟩ := rabs_back h
            obtain ⟨c1, -, c3, -⟩ := ctext_pos (b := f) (by omega)
            exact ⟨by rw [c1, b2], by omega, c3⟩
theorem rparse_text {f : Nat} (hf : f < 18446744073709551616) (hn : nanD f = false) : rparseB (ctext f) = some f := by
  have hb : f % 9223372036854775808 ≤ 9218868437227405312 := by
    rw [nan_iff] at hn
    have := of_decide_eq_false hn
    omega
  unfold rparseB
  by_cases h1 : f = 0
  · rw [if_pos (by rw [h1]), h1]
  rw [if_neg fun e => h1 (text_inj hf (by decide) hn (by decide +kernel) e)]
  by_cases h2 : f = 9223372036854775808
  · rw [if_pos (by rw [h2]), h2]
  rw [if_neg fun e => h2 (text_inj hf (by decide) hn (by decide +kernel) e)]
  by_cases h3 : f = 9218868437227405312
  · rw [if_pos (by rw [h3]), h3]
  rw [if_neg fun e => h3 (text_inj hf (by decide) hn (by decide +kernel) e)]
  by_cases h4 : f = 18442240474082181120
  · rw [if_pos (by rw [h4]), h4]
  rw [if_neg fun e => h4 (text_inj hf (by decide) hn (by decide +kernel) e)]
  obtain ⟨c1, c2, -, -⟩ := ctext_pos hb
  obtain ⟨hh, -⟩ := absT_head (f % 9223372036854775808)
  have hra := rabs_abs (b := f % 9223372036854775808) (by omega) (by omega)
  by_cases hm : 9223372036854775808 ≤ f
  · have e : f = 9223372036854775808 + f % 9223372036854775808 := by omega
    rw [e, c2, List.head?_cons, if_pos rfl]
    show (rabs (absT _)).map _ = _
    rw [hra]; rfl
  · have e : f = f % 9223372036854775808 := by omega
    have hra2 := hra
    rw [e, c1, if_neg hh, hra2]
/-- The program reads what the document reads. -/
theorem parse_eq (s : List UInt8) : parseB s = rparseB s := by
  cases hr : rparseB s with
  | some f =>
    obtain ⟨h1, h2, h3⟩ := rparse_back hr
    obtain ⟨h4, h5⟩ := cand_text h2 h3
    rw [← h1] at h4 h5
    rw [parseB, if_neg h5, h4, if_pos h1.symm]
  | none =>
    unfold parseB
    split
    · rfl
    · split
      · rename_i hne he
        have hn : nanD (candB s) = false := by
          cases hq : nanD (candB s) with
          | false => rfl
          | true => rw [ctext, if_pos hq] at he; exact absurd he.symm hne
        have := rparse_text (candB_lt s) hn
        rw [he, hr] at this
        cases this
      · rfl
theorem parse_text {f : Nat} (hf : f < 18446744073709551616) (hn : nanD f = false) : parseB (ctext f) = some f := by rw [parse_eq, rparse_text hf hn]
theorem parse_nan {f : Nat} (hn : nanD f = true) : parseB (ctext f) = none := by rw [ctext, if_pos hn, parseB, if_pos rfl]
theorem parse_back {s : List UInt8} {f : Nat} (h : parseB s = some f) : ctext f = s := by
  rw [parse_eq] at h
  exact (rparse_back h).1.symm
end Go.Proofs.YtckcadhjpjjmjaaDoor
namespace Go.Proofs.YtckcadhjpjjmjaaDoor
open Go.RowKit
theorem c_isnan (b : Nat) (w : World) : Calls Tryd.prog 66 #[.float .f64 b] w fun e w' => e = .returned (.bool (nanD b)) ∧ w' = w := by
  have hs := self_d b
  go_enter Tryd.func66, Tryd.ntmps66
  go_wp2_with fail
  go_ret
  exact ⟨by rw [← hs]; rfl, rfl⟩
set_option maxRecDepth 100000 in
set_option maxHeartbeats 800000 in
theorem c_nan4609434218613702656 (w : World) : Calls Tryd.prog 66 #[.float .f64 4609434218613702656] w fun e w' => e = .returned (.bool false) ∧ w' = w := by
  have q1 : (FloatKind.f64.format.order 4609434218613702656 4609434218613702656 != some .eq) = false := by decide +kernel
  go_enter Tryd.func66, Tryd.ntmps66
  go_wp2_with fail
  go_ret
  exact ⟨rfl, rfl⟩
set_option maxRecDepth 100000 in
set_option maxHeartbeats 800000 in
theorem c_abs4609434218613702656 (w : World) : Calls Tryd.prog 70 #[.float .f64 4609434218613702656] w fun e w' => e = .returned (.float .f64 4609434218613702656) ∧ w' = w := by
  have fb656 : ∀ w : World, (callFunc 53 #[.float .f64 4609434218613702656]).run Tryd.prog w = .ok (.value (.int .u64 4609434218613702656)) w := run_fbits 4609434218613702656
  have ff656 : ∀ w : World, (callFunc 17 #[.int .u64 4609434218613702656]).run Tryd.prog w = .ok (.value (.float .f64 4609434218613702656)) w := run_ffrom 4609434218613702656
  have q2 : bits .andNot .u64 4609434218613702656 9223372036854775808 = 4609434218613702656 := by decide +kernel
  go_enter Tryd.func70, Tryd.ntmps70
  go_wp2_with fail
  go_ret
  exact ⟨rfl, rfl⟩
set_option maxRecDepth 100000 in
set_option maxHeartbeats 800000 in
theorem c_inf4609434218613702656 (w : World) : Calls Tryd.prog 68 #[.float .f64 4609434218613702656, .int .i64 0] w fun e w' => e = .returned (.bool false) ∧ w' = w := by
  have q3 : (FloatKind.f64.format.order 4609434218613702656 9218868437227405311 == some .gt) = false := by decide +kernel
  go_enter Tryd.func68, Tryd.ntmps68
  go_wp2_with fail
  refine (c_abs4609434218613702656 _).mono ?_
  rintro e w1 ⟨rfl, rfl⟩
  go_wp2_with fail
  go_ret
  exact ⟨rfl, rfl⟩
set_option maxRecDepth 100000 in
set_option maxHeartbeats 800000 in
theorem c_norm4609434218613702656 (w : World) : Calls Tryd.prog 120 #[.float .f64 4609434218613702656] w fun e w' => e = .returned (.tuple #[.float .f64 4609434218613702656, .int .i64 0]) ∧ w' = w := by
  have q4 : (FloatKind.f64.format.order 4609434218613702656 4503599627370496 == some .lt) = false := by decide +kernel
  go_enter Tryd.func120, Tryd.ntmps120
  go_wp2_with fail
  refine (c_abs4609434218613702656 _).mono ?_
  rintro e w1 ⟨rfl, rfl⟩
  go_wp2_with fail
  exact bodyPost_ret (v := .tuple #[.float .f64 4609434218613702656, .int .i64 0]) (by simp [results, Tryd.results120, go_sem]) rfl ⟨rfl, rfl⟩
set_option maxRecDepth 100000 in
set_option maxHeartbeats 800000 in
theorem c_nan4604930618986332160 (w : World) : Calls Tryd.prog 66 #[.float .f64 4604930618986332160] w fun e w' => e = .returned (.bool false) ∧ w' = w := by
  have q5 : (FloatKind.f64.format.order 4604930618986332160 4604930618986332160 != some .eq) = false := by decide +kernel
  go_enter Tryd.func66, Tryd.ntmps66
  go_wp2_with fail
  go_ret
  exact ⟨rfl, rfl⟩
set_option maxRecDepth 100000 in
set_option maxHeartbeats 800000 in
theorem c_abs4604930618986332160 (w : World) : Calls Tryd.prog 70 #[.float .f64 4604930618986332160] w fun e w' => e = .returned (.float .f64 4604930618986332160) ∧ w' = w := by
  have fb160 : ∀ w : World, (callFunc 53 #[.float .f64 4604930618986332160]).run Tryd.prog w = .ok (.value (.int .u64 4604930618986332160)) w := run_fbits 4604930618986332160
  have ff160 : ∀ w : World, (callFunc 17 #[.int .u64 4604930618986332160]).run Tryd.prog w = .ok (.value (.float .f64 4604930618986332160)) w := run_ffrom 4604930618986332160
  have q6 : bits .andNot .u64 4604930618986332160 9223372036854775808 = 4604930618986332160 := by decide +kernel
  go_enter Tryd.func70, Tryd.ntmps70
  go_wp2_with fail
  go_ret
  exact ⟨rfl, rfl⟩
set_option maxRecDepth 100000 in
set_option maxHeartbeats 800000 in
theorem c_inf4604930618986332160 (w : World) : Calls Tryd.prog 68 #[.float .f64 4604930618986332160, .int .i64 0] w fun e w' => e = .returned (.bool false) ∧ w' = w := by
  have q7 : (FloatKind.f64.format.order 4604930618986332160 9218868437227405311 == some .gt) = false := by decide +kernel
  go_enter Tryd.func68, Tryd.ntmps68
  go_wp2_with fail
  refine (c_abs4604930618986332160 _).mono ?_
  rintro e w1 ⟨rfl, rfl⟩
  go_wp2_with fail
  go_ret
  exact ⟨rfl, rfl⟩
set_option maxRecDepth 100000 in
set_option maxHeartbeats 800000 in
theorem c_norm4604930618986332160 (w : World) : Calls Tryd.prog 120 #[.float .f64 4604930618986332160] w fun e w' => e = .returned (.tuple #[.float .f64 4604930618986332160, .int .i64 0]) ∧ w' = w := by
  have q8 : (FloatKind.f64.format.order 4604930618986332160 4503599627370496 == some .lt) = false := by decide +kernel
  go_enter Tryd.func120, Tryd.ntmps120
  go_wp2_with fail
  refine (c_abs4604930618986332160 _).mono ?_
  rintro e w1 ⟨rfl, rfl⟩
  go_wp2_with fail
  exact bodyPost_ret (v := .tuple #[.float .f64 4604930618986332160, .int .i64 0]) (by simp [results, Tryd.results120, go_sem]) rfl ⟨rfl, rfl⟩
set_option maxRecDepth 100000 in
set_option maxHeartbeats 800000 in
theorem c_frexp4609434218613702656 (w : World) : Calls Tryd.prog 94 #[.float .f64 4609434218613702656] w fun e w' => e = .returned (.tuple #[.float .f64 4604930618986332160, .int .i64 1]) ∧ w' = w := by
  have q9 : (FloatKind.f64.format.order 4609434218613702656 0 == some .eq) = false := by decide +kernel
  have fb656 : ∀ w : World, (callFunc 53 #[.float .f64 4609434218613702656]).run Tryd.prog w = .ok (.value (.int .u64 4609434218613702656)) w := run_fbits 4609434218613702656
  have ff160 : ∀ w : World, (callFunc 17 #[.int .u64 4604930618986332160]).run Tryd.prog w = .ok (.value (.float .f64 4604930618986332160)) w := run_ffrom 4604930618986332160
  have q10 : bits .and .u64 1023 2047 = 1023 := by decide +kernel
  have q11 : bits .andNot .u64 4609434218613702656 9218868437227405312 = 2251799813685248 := by decide +kernel
  have q12 : bits .or .u64 2251799813685248 4602678819172646912 = 4604930618986332160 := by decide +kernel
  go_enter Tryd.func94, Tryd.ntmps94
  go_wp2_with fail
  refine (c_inf4609434218613702656 _).mono ?_
  rintro e w1 ⟨rfl, rfl⟩
  go_wp2_with fail
  refine (c_nan4609434218613702656 _).mono ?_
  rintro e w1 ⟨rfl, rfl⟩
  go_wp2_with fail
  refine (c_norm4609434218613702656 _).mono ?_
  rintro e w1 ⟨rfl, rfl⟩
  go_wp2_with fail
  exact bodyPost_ret (v := .tuple #[.float .f64 4604930618986332160, .int .i64 1]) (by simp [results, Tryd.results94, go_sem]) rfl ⟨rfl, rfl⟩
set_option maxRecDepth 100000 in
set_option maxHeartbeats 800000 in
theorem c_Frexp4609434218613702656 (w : World) : Calls Tryd.prog 69 #[.float .f64 4609434218613702656] w fun e w' => e = .returned (.tuple #[.float .f64 4604930618986332160, .int .i64 1]) ∧ w' = w := by
  go_enter Tryd.func69, Tryd.ntmps69
  go_wp2_with fail
  refine (c_frexp4609434218613702656 _).mono ?_
  rintro e w1 ⟨rfl, rfl⟩
  go_wp2_with fail
  exact bodyPost_ret (v := .tuple #[.float .f64 4604930618986332160, .int .i64 1]) (by simp [results, Tryd.results69, go_sem]) rfl ⟨rfl, rfl⟩
set_option maxRecDepth 100000 in
set_option maxHeartbeats 800000 in
theorem c_nan4620693217682128896 (w : World) : Calls Tryd.prog 66 #[.float .f64 4620693217682128896] w fun e w' => e = .returned (.bool false) ∧ w' = w := by
  have q13 : (FloatKind.f64.format.order 4620693217682128896 4620693217682128896 != some .eq) = false := by decide +kernel
  go_enter Tryd.func66, Tryd.ntmps66
  go_wp2_with fail
  go_ret
  exact ⟨rfl, rfl⟩
set_option maxRecDepth 100000 in
set_option maxHeartbeats 800000 in
theorem c_abs4620693217682128896 (w : World) : Calls Tryd.prog 70 #[.float .f64 4620693217682128896] w fun e w' => e = .returned (.float .f64 4620693217682128896) ∧ w' = w := by
  have fb896 : ∀ w : World, (callFunc 53 #[.float .f64 4620693217682128896]).run Tryd.prog w = .ok (.value (.int .u64 4620693217682128896)) w := run_fbits 4620693217682128896
  have ff896 : ∀ w : World, (callFunc 17 #[.int .u64 4620693217682128896]).run Tryd.prog w = .ok (.value (.float .f64 4620693217682128896)) w := run_ffrom 4620693217682128896
  have q14 : bits .andNot .u64 4620693217682128896 9223372036854775808 = 4620693217682128896 := by decide +kernel
  go_enter Tryd.func70, Tryd.ntmps70
  go_wp2_with fail
  go_ret
  exact ⟨rfl, rfl⟩
set_option maxRecDepth 100000 in
set_option maxHeartbeats 800000 in
theorem c_inf4620693217682128896 (w : World) : Calls Tryd.prog 68 #[.float .f64 4620693217682128896, .int .i64 0] w fun e w' => e = .returned (.bool false) ∧ w' = w := by
  have q15 : (FloatKind.f64.format.order 4620693217682128896 9218868437227405311 == some .gt) = false := by decide +kernel
  go_enter Tryd.func68, Tryd.ntmps68
  go_wp2_with fail
  refine (c_abs4620693217682128896 _).mono ?_
  rintro e w1 ⟨rfl, rfl⟩
  go_wp2_with fail
  go_ret
  exact ⟨rfl, rfl⟩
set_option maxRecDepth 100000 in
set_option maxHeartbeats 800000 in
theorem c_norm4620693217682128896 (w : World) : Calls Tryd.prog 120 #[.float .f64 4620693217682128896] w fun e w' => e = .returned (.tuple #[.float .f64 4620693217682128896, .int .i64 0]) ∧ w' = w := by
  have q16 : (FloatKind.f64.format.order 4620693217682128896 4503599627370496 == some .lt) = false := by decide +kernel
  go_enter Tryd.func120, Tryd.ntmps120
  go_wp2_with fail
  refine (c_abs4620693217682128896 _).mono ?_
  rintro e w1 ⟨rfl, rfl⟩
  go_wp2_with fail
  exact bodyPost_ret (v := .tuple #[.float .f64 4620693217682128896, .int .i64 0]) (by simp [results, Tryd.results120, go_sem]) rfl ⟨rfl, rfl⟩
set_option maxRecDepth 100000 in
set_option maxHeartbeats 800000 in
theorem c_nan4602678819172646912 (w : World) : Calls Tryd.prog 66 #[.float .f64 4602678819172646912] w fun e w' => e = .returned (.bool false) ∧ w' = w := by
  have q17 : (FloatKind.f64.format.order 4602678819172646912 4602678819172646912 != some .eq) = false := by decide +kernel
  go_enter Tryd.func66, Tryd.ntmps66
  go_wp2_with fail
  go_ret
  exact ⟨rfl, rfl⟩
set_option maxRecDepth 100000 in
set_option maxHeartbeats 800000 in
theorem c_abs4602678819172646912 (w : World) : Calls Tryd.prog 70 #[.float .f64 4602678819172646912] w fun e w' => e = .returned (.float .f64 4602678819172646912) ∧ w' = w := by
  have fb912 : ∀ w : World, (callFunc 53 #[.float .f64 4602678819172646912]).run Tryd.prog w = .ok (.value (.int .u64 4602678819172646912)) w := run_fbits 4602678819172646912
  have ff912 : ∀ w : World, (callFunc 17 #[.int .u64 4602678819172646912]).run Tryd.prog w = .ok (.value (.float .f64 4602678819172646912)) w := run_ffrom 4602678819172646912
  have q18 : bits .andNot .u64 4602678819172646912 9223372036854775808 = 4602678819172646912 := by decide +kernel
  go_enter Tryd.func70, Tryd.ntmps70
  go_wp2_with fail
  go_ret
  exact ⟨rfl, rfl⟩
set_option maxRecDepth 100000 in
set_option maxHeartbeats 800000 in
theorem c_inf4602678819172646912 (w : World) : Calls Tryd.prog 68 #[.float .f64 4602678819172646912, .int .i64 0] w fun e w' => e = .returned (.bool false) ∧ w' = w := by
  have q19 : (FloatKind.f64.format.order 4602678819172646912 9218868437227405311 == some .gt) = false := by decide +kernel
  go_enter Tryd.func68, Tryd.ntmps68
  go_wp2_with fail
  refine (c_abs4602678819172646912 _).mono ?_
  rintro e w1 ⟨rfl, rfl⟩
  go_wp2_with fail
  go_ret
  exact ⟨rfl, rfl⟩
set_option maxRecDepth 100000 in
set_option maxHeartbeats 800000 in
theorem c_norm4602678819172646912 (w : World) : Calls Tryd.prog 120 #[.float .f64 4602678819172646912] w fun e w' => e = .returned (.tuple #[.float .f64 4602678819172646912, .int .i64 0]) ∧ w' = w := by
  have q20 : (FloatKind.f64.format.order 4602678819172646912 4503599627370496 == some .lt) = false := by decide +kernel
  go_enter Tryd.func120, Tryd.ntmps120
  go_wp2_with fail
  refine (c_abs4602678819172646912 _).mono ?_
  rintro e w1 ⟨rfl, rfl⟩
  go_wp2_with fail
  exact bodyPost_ret (v := .tuple #[.float .f64 4602678819172646912, .int .i64 0]) (by simp [results, Tryd.results120, go_sem]) rfl ⟨rfl, rfl⟩
set_option maxRecDepth 100000 in
set_option maxHeartbeats 800000 in
theorem c_frexp4620693217682128896 (w : World) : Calls Tryd.prog 94 #[.float .f64 4620693217682128896] w fun e w' => e = .returned (.tuple #[.float .f64 4602678819172646912, .int .i64 4]) ∧ w' = w := by
  have q21 : (FloatKind.f64.format.order 4620693217682128896 0 == some .eq) = false := by decide +kernel
  have fb896 : ∀ w : World, (callFunc 53 #[.float .f64 4620693217682128896]).run Tryd.prog w = .ok (.value (.int .u64 4620693217682128896)) w := run_fbits 4620693217682128896
  have ff912 : ∀ w : World, (callFunc 17 #[.int .u64 4602678819172646912]).run Tryd.prog w = .ok (.value (.float .f64 4602678819172646912)) w := run_ffrom 4602678819172646912
  have q22 : bits .and .u64 1026 2047 = 1026 := by decide +kernel
  have q23 : bits .andNot .u64 4620693217682128896 9218868437227405312 = 0 := by decide +kernel
  have q24 : bits .or .u64 0 4602678819172646912 = 4602678819172646912 := by decide +kernel
  go_enter Tryd.func94, Tryd.ntmps94
  go_wp2_with fail
  refine (c_inf4620693217682128896 _).mono ?_
  rintro e w1 ⟨rfl, rfl⟩
  go_wp2_with fail
  refine (c_nan4620693217682128896 _).mono ?_
  rintro e w1 ⟨rfl, rfl⟩
  go_wp2_with fail
  refine (c_norm4620693217682128896 _).mono ?_
  rintro e w1 ⟨rfl, rfl⟩
  go_wp2_with fail
  exact bodyPost_ret (v := .tuple #[.float .f64 4602678819172646912, .int .i64 4]) (by simp [results, Tryd.results94, go_sem]) rfl ⟨rfl, rfl⟩
set_option maxRecDepth 100000 in
set_option maxHeartbeats 800000 in
theorem c_Frexp4620693217682128896 (w : World) : Calls Tryd.prog 69 #[.float .f64 4620693217682128896] w fun e w' => e = .returned (.tuple #[.float .f64 4602678819172646912, .int .i64 4]) ∧ w' = w := by
  go_enter Tryd.func69, Tryd.ntmps69
  go_wp2_with fail
  refine (c_frexp4620693217682128896 _).mono ?_
  rintro e w1 ⟨rfl, rfl⟩
  go_wp2_with fail
  exact bodyPost_ret (v := .tuple #[.float .f64 4602678819172646912, .int .i64 4]) (by simp [results, Tryd.results69, go_sem]) rfl ⟨rfl, rfl⟩
end Go.Proofs.YtckcadhjpjjmjaaDoor
namespace Go.Proofs.YtckcadhjpjjmjaaDoor
open Go.RowKit
set_option maxRecDepth 100000 in
set_option maxHeartbeats 800000 in
theorem c_ldexp4604930618986332160 (w : World) : Calls Tryd.prog 96 #[.float .f64 4604930618986332160, .int .i64 53] w fun e w' => e = .returned (.float .f64 4843621399236968448) ∧ w' = w := by
  have q25 : (FloatKind.f64.format.order 4604930618986332160 0 == some .eq) = false := by decide +kernel
  have fb160 : ∀ w : World, (callFunc 53 #[.float .f64 4604930618986332160]).run Tryd.prog w = .ok (.value (.int .u64 4604930618986332160)) w := run_fbits 4604930618986332160
  have ff448 : ∀ w : World, (callFunc 17 #[.int .u64 4843621399236968448]).run Tryd.prog w = .ok (.value (.float .f64 4843621399236968448)) w := run_ffrom 4843621399236968448
  have q26 : bits .and .i64 1022 2047 = 1022 := by decide +kernel
  have q27 : bits .andNot .u64 4604930618986332160 9218868437227405312 = 2251799813685248 := by decide +kernel
  have q28 : bits .or .u64 2251799813685248 4841369599423283200 = 4843621399236968448 := by decide +kernel
  have hm : ∀ w : World, (binOp .mul 31 (.float .f64 4607182418800017408) (.float .f64 4843621399236968448)).run Tryd.prog w = .ok (.float .f64 4843621399236968448) w := fun w => by kernel_rfl
  go_enter Tryd.func96, Tryd.ntmps96
  go_wp2_with fail
  refine (c_inf4604930618986332160 _).mono ?_
  rintro e w1 ⟨rfl, rfl⟩
  go_wp2_with fail
  refine (c_isnan 4604930618986332160 _).mono ?_
  rintro e w1 ⟨rfl, rfl⟩
  go_wp2_with fail
  refine (c_norm4604930618986332160 _).mono ?_
  rintro e w1 ⟨rfl, rfl⟩
  go_wp2_with fail
  go_ret
  exact ⟨rfl, rfl⟩
set_option maxRecDepth 100000 in
set_option maxHeartbeats 800000 in
theorem c_Ldexp4604930618986332160 (w : World) : Calls Tryd.prog 71 #[.float .f64 4604930618986332160, .int .i64 53] w fun e w' => e = .returned (.float .f64 4843621399236968448) ∧ w' = w := by
  go_enter Tryd.func71, Tryd.ntmps71
  go_wp2_with fail
  refine (c_ldexp4604930618986332160 _).mono ?_
  rintro e w1 ⟨rfl, rfl⟩
  go_wp2_with fail
  go_ret
  exact ⟨rfl, rfl⟩
set_option maxRecDepth 100000 in
set_option maxHeartbeats 800000 in
theorem c_ldexp4602678819172646912 (w : World) : Calls Tryd.prog 96 #[.float .f64 4602678819172646912, .int .i64 53] w fun e w' => e = .returned (.float .f64 4841369599423283200) ∧ w' = w := by
  have q29 : (FloatKind.f64.format.order 4602678819172646912 0 == some .eq) = false := by decide +kernel
  have fb912 : ∀ w : World, (callFunc 53 #[.float .f64 4602678819172646912]).run Tryd.prog w = .ok (.value (.int .u64 4602678819172646912)) w := run_fbits 4602678819172646912
  have ff200 : ∀ w : World, (callFunc 17 #[.int .u64 4841369599423283200]).run Tryd.prog w = .ok (.value (.float .f64 4841369599423283200)) w := run_ffrom 4841369599423283200
  have q30 : bits .and .i64 1022 2047 = 1022 := by decide +kernel
  have q31 : bits .andNot .u64 4602678819172646912 9218868437227405312 = 0 := by decide +kernel
  have q32 : bits .or .u64 0 4841369599423283200 = 4841369599423283200 := by decide +kernel
  have hm : ∀ w : World, (binOp .mul 31 (.float .f64 4607182418800017408) (.float .f64 4841369599423283200)).run Tryd.prog w = .ok (.float .f64 4841369599423283200) w := fun w => by kernel_rfl
  go_enter Tryd.func96, Tryd.ntmps96
  go_wp2_with fail
  refine (c_inf4602678819172646912 _).mono ?_
  rintro e w1 ⟨rfl, rfl⟩
  go_wp2_with fail
  refine (c_isnan 4602678819172646912 _).mono ?_
  rintro e w1 ⟨rfl, rfl⟩
  go_wp2_with fail
  refine (c_norm4602678819172646912 _).mono ?_
  rintro e w1 ⟨rfl, rfl⟩
  go_wp2_with fail
  go_ret
  exact ⟨rfl, rfl⟩
set_option maxRecDepth 100000 in
set_option maxHeartbeats 800000 in
theorem c_Ldexp4602678819172646912 (w : World) : Calls Tryd.prog 71 #[.float .f64 4602678819172646912, .int .i64 53] w fun e w' => e = .returned (.float .f64 4841369599423283200) ∧ w' = w := by
  go_enter Tryd.func71, Tryd.ntmps71
  go_wp2_with fail
  refine (c_ldexp4602678819172646912 _).mono ?_
  rintro e w1 ⟨rfl, rfl⟩
  go_wp2_with fail
  go_ret
  exact ⟨rfl, rfl⟩
theorem c_signbit (b : Nat) (hb : b < 9223372036854775808) (w : World) : Calls Tryd.prog 67 #[.float .f64 b] w fun e w' => e = .returned (.bool false) ∧ w' = w := by
  have hf := run_fbits b
  go_enter Tryd.func67, Tryd.ntmps67
  go_wp2_with fail
  go_ret
  exact ⟨rfl, rfl⟩
set_option maxHeartbeats 1000000 in
theorem tz_core (x k idx : Nat) (w : World) (hx0 : ((x : Int) == 0) = false)
    (key : IntKind.u64.wrap (bits BinOp.and IntKind.u64 (x : Int) (IntKind.u64.wrap (-(x : Int))) * 285870213051353865) / 288230376151711744 = (idx : Int))
    (hi : idx < 64) (hk : k < 64) (hcell : w.cell? ⟨1, idx, none⟩ = some (.int .u8 k)) :
    Calls Tryd.prog 72 #[.int .u64 x] w fun e w' => e = .returned (.int .i64 k) ∧ w' = w := by
  go_enter Tryd.func72, Tryd.ntmps72
  go_wp2_with (simp only [key])
  go_ret
  exact ⟨rfl, rfl⟩
abbrev TzAt (w : World) : Prop := Lib.TabIs Tryd.prog w "math/bits.deBruijn64tab" .u8 (Lib.deBruijn64tab.map Int.ofNat)
theorem c_tz (x : Nat) (hx : x < 18446744073709551616) (hx0 : x ≠ 0) (w : World) (hT : TzAt w) :
    Calls Tryd.prog 72 #[.int .u64 x] w fun e w' => e = .returned (.int .i64 (Lib.ctz 64 x)) ∧ w' = w := by
  obtain ⟨hlow, hk⟩ := Lib.lowest_bit 64 x hx0 hx
  obtain ⟨hi, htab⟩ := Lib.deBruijn64_at _ hk
  have hcell := hT.cell (g := 1) (by kernel_rfl) _ (by rw [List.length_map]; exact hi)
  refine tz_core x _ _ w (by simp; omega) (tz64_key x _ hx hx0 hlow) hi hk (hcell.trans ?_)
  have e : ∀ j, (Lib.deBruijn64tab.map Int.ofNat).getD j 0 = ((Lib.deBruijn64tab.getD j 0 : Nat) : Int) := fun j => by
    simp only [List.getD, List.getElem?_map]
    cases Lib.deBruijn64tab[j]? <;> rfl
  rw [e, htab]
end Go.Proofs.YtckcadhjpjjmjaaDoor
namespace Go.Proofs.YtckcadhjpjjmjaaDoor
open Go.RowKit
theorem b_sign {b : Nat} (h : b < 18446744073709551616) : bits .andNot .u64 (b : Int) 9223372036854775808 = ((b % 9223372036854775808 : Nat) : Int) := by
  rw [show (9223372036854775808 : Int) = ((9223372036854775808 : Nat) : Int) from rfl, u64_andNot_nat b _ h (by decide)]
  congr 1
  exact Nat.and_two_pow_sub_one_eq_mod b 63
theorem b_mask {b : Nat} (h : b < 9223372036854775808) : bits .andNot .u64 (b : Int) 9218868437227405312 = ((b % 4503599627370496 : Nat) : Int) := by
  rw [show (9218868437227405312 : Int) = ((9218868437227405312 : Nat) : Int) from rfl, u64_andNot_nat b _ (by omega) (by decide)]
  congr 1
  have e : 18446744073709551615 - 9218868437227405312 = 2 ^ 63 ||| (2 ^ 52 - 1) := by decide +kernel
  rw [e, Nat.and_or_distrib_left, Nat.and_two_pow_sub_one_eq_mod b 52]
  have e2 : b &&& 2 ^ 63 = 0 := by
    apply Nat.eq_of_testBit_eq
    intro i
    rw [Nat.testBit_and, Nat.zero_testBit, Nat.testBit_two_pow]
    by_cases e : 63 = i
    · subst e; rw [Nat.testBit_lt_two_pow h]; rfl
    · simp [e]
  rw [e2, Nat.zero_or]
theorem b_or {a c : Nat} (h : a < 4503599627370496) (hc : c * 4503599627370496 < 18446744073709551616) : bits .or .u64 (a : Int) ((c * 4503599627370496 : Nat) : Int) = ((a + c * 4503599627370496 : Nat) : Int) := by
  rw [bits_or_u64_nat a _ (by omega) hc]
  congr 1
  have := Nat.two_pow_add_eq_or_of_lt (i := 52) (b := a) h c
  rw [Nat.or_comm, Nat.mul_comm c, Nat.add_comm]
  exact this.symm
theorem b_low (x : Nat) (h : x < 18446744073709551616) : bits .and .u64 (x : Int) 2047 = ((x % 2048 : Nat) : Int) := by
  rw [show (2047 : Int) = ((2047 : Nat) : Int) from rfl, bits_and_u64_nat x _ h (by decide)]
  congr 1
  exact Nat.and_two_pow_sub_one_eq_mod x 11
theorem b_low64 (x : Nat) (h : x < 2048) : bits .and .i64 (x : Int) 2047 = (x : Int) := by
  have : ∀ x : Fin 2048, bits .and .i64 (x.val : Int) 2047 = (x.val : Int) := by decide +kernel
  exact this ⟨x, h⟩
theorem rk_fin {b : Nat} (h : b < 9223372036854775808) : rkD b = b := by
  rw [rk_pos (by omega) (by omega)]; omega
theorem nan_fin {b : Nat} (h : b ≤ 9218868437227405312) : nanD b = false := by rw [nan_iff]; exact decide_eq_false (by omega)
theorem ord_fin {a b : Nat} (ha : a ≤ 9218868437227405312) (hb : b ≤ 9218868437227405312) : FloatKind.f64.format.order a b = some (compare (a : Int) b) := by
  have := order_d a b
  rw [if_neg (by rw [nan_fin ha, nan_fin hb]; simp), rk_fin (by omega), rk_fin (by omega)] at this
  exact this
theorem ord_gt {a b : Nat} (ha : a ≤ 9218868437227405312) (hb : b ≤ 9218868437227405312) : (FloatKind.f64.format.order a b == some .gt) = decide (b < a) := by
  rw [ord_fin ha hb]
  rcases Nat.lt_trichotomy a b with h | h | h
  · rw [cmp_lt (by omega), decide_eq_false (by omega)]; rfl
  · subst h; rw [cmp_eq, decide_eq_false (by omega)]; rfl
  · rw [cmp_gt (by omega), decide_eq_true h]; rfl
theorem ord_lt {a b : Nat} (ha : a ≤ 9218868437227405312) (hb : b ≤ 9218868437227405312) : (FloatKind.f64.format.order a b == some .lt) = decide (a < b) := by
  rw [ord_fin ha hb]
  rcases Nat.lt_trichotomy a b with h | h | h
  · rw [cmp_lt (by omega), decide_eq_true h]; rfl
  · subst h; rw [cmp_eq, decide_eq_false (by omega)]; rfl
  · rw [cmp_gt (by omega), decide_eq_false (by omega)]; rfl
/-- Is it 0, of whichever sign? -/
theorem ord_zero {b : Nat} (h : b < 18446744073709551616) : (FloatKind.f64.format.order b 0 == some .eq) = decide (b % 9223372036854775808 = 0) := by
  have := order_d b 0
  have hz : nanD 0 = false := nan_fin (by decide)
  have hr : rkD 0 = 0 := rk_fin (by decide)
  show (ordD b 0 == some .eq) = _
  rw [this, hz, hr]
  cases hn : nanD b with
  | true =>
    rw [nan_iff] at hn
    have := of_decide_eq_true hn
    rw [if_pos (.inl rfl), decide_eq_false (by omega)]; rfl
  | false =>
    rw [if_neg (by simp)]
    by_cases hs : b / 9223372036854775808 = 1
    · rw [rk_neg hs]
      by_cases h0 : b % 9223372036854775808 = 0
      · rw [decide_eq_true h0, show -((b : Int) % 9223372036854775808) = 0 by omega, cmp_eq]; rfl
      · rw [decide_eq_false h0, cmp_lt (by omega)]; rfl
    · rw [rk_pos h hs]
      by_cases h0 : b % 9223372036854775808 = 0
      · rw [decide_eq_true h0, show ((b : Int) % 9223372036854775808) = 0 by omega, cmp_eq]; rfl
      · rw [decide_eq_false h0, cmp_gt (by omega)]; rfl
theorem c_abs (b c : Nat) (hb : b < 18446744073709551616) (hc : b % 9223372036854775808 = c) (w : World) : Calls Tryd.prog 70 #[.float .f64 b] w fun e w' => e = .returned (.float .f64 c) ∧ w' = w := by
  have h1 := run_fbits b
  have h2 := run_ffrom c
  have h3 := b_sign hb
  rw [hc] at h3
  clear hc hb
  go_enter Tryd.func70, Tryd.ntmps70
  go_wp2_with fail
  go_ret
  exact ⟨rfl, rfl⟩
theorem c_isinf (b c : Nat) (hb : b < 18446744073709551616) (hc : b % 9223372036854775808 = c) (w : World) : Calls Tryd.prog 68 #[.float .f64 b, .int .i64 0] w fun e w' => e = .returned (.bool (FloatKind.f64.format.order c 9218868437227405311 == some .gt)) ∧ w' = w := by
  have HB := hide hb
  have HC := hide hc
  clear hb hc
  go_enter Tryd.func68, Tryd.ntmps68
  go_wp2_with fail
  refine (c_abs b c HB.out HC.out _).mono ?_
  rintro e w1 ⟨rfl, rfl⟩
  go_wp2_with fail
  go_ret
  exact ⟨rfl, rfl⟩
/-- Infinity, told. -/
theorem inf_told {c : Nat} (h : c ≤ 9218868437227405312) : (FloatKind.f64.format.order c 9218868437227405311 == some .gt) = decide (c = 9218868437227405312) := by
  rw [ord_gt h (by decide)]
  by_cases e : c = 9218868437227405312
  · rw [decide_eq_true e, decide_eq_true (by omega)]
  · rw [decide_eq_false e, decide_eq_false (by omega)]
theorem c_signb (b : Nat) (hb : b < 18446744073709551616) (w : World) : Calls Tryd.prog 67 #[.float .f64 b] w fun e w' => e = .returned (.bool (decide (9223372036854775808 ≤ b))) ∧ w' = w := by
  have hf := run_fbits b
  by_cases h : 9223372036854775808 ≤ b
  · rw [decide_eq_true h]
    have hw : IntKind.i64.wrap (b : Int) = (b : Int) - 18446744073709551616 := by rw [IntKind.wrap_i64]; omega
    go_enter Tryd.func67, Tryd.ntmps67
    go_wp2_with fail
    go_ret
    exact ⟨congrArg (fun x => Ending.returned (.bool x)) (show decide ((b : Int) - 18446744073709551616 < 0) = true from decide_eq_true (by omega)), rfl⟩
  · rw [decide_eq_false h]
    exact c_signbit b (by omega) w
end Go.Proofs.YtckcadhjpjjmjaaDoor
namespace Go.Proofs.YtckcadhjpjjmjaaDoor
open Go.RowKit
/-- A float's digits with the first one in place 52. -/
def nrmW (b : Nat) : Nat := sigW b * 2 ^ (52 - (sigW b).log2)
theorem nrm_rng {b : Nat} (h : 0 < b) : 4503599627370496 ≤ nrmW b ∧ nrmW b < 9007199254740992 := norm_rng (sig_lt b) (by have := sig_pos h; omega)
theorem nrm_big {b : Nat} (h : 4503599627370496 ≤ b) : (sigW b).log2 = 52 ∧ nrmW b = sigW b ∧ b = upW b * 4503599627370496 + sigW b ∧ 4503599627370496 ≤ sigW b := by
  have hs : 4503599627370496 ≤ sigW b := by unfold sigW; split <;> omega
  have hl : (sigW b).log2 = 52 := log_of (by omega) (by have := sig_lt b; omega)
  refine ⟨hl, ?_, (put_get b).symm, hs⟩
  rw [nrmW, hl, Nat.sub_self, Nat.pow_zero, Nat.mul_one]
/-- What normalize makes of it. -/
def nyW (b : Nat) : Nat := if b < 4503599627370496 then b.log2 * 4503599627370496 + nrmW b else b
def nsW (b : Nat) : Int := if b < 4503599627370496 then -52 else 0
theorem ny_fact {b : Nat} (h0 : 0 < b) (hb : b < 9218868437227405312) : nyW b < 9218868437227405312 ∧ nyW b % 4503599627370496 = nrmW b - 4503599627370496 ∧ nsW b + ((nyW b / 4503599627370496 : Nat) : Int) = (upW b : Int) - 51 + (sigW b).log2 ∧ 1 ≤ nyW b / 4503599627370496 ∧ nyW b / 4503599627370496 ≤ 2046 := by
  obtain ⟨n1, n2⟩ := nrm_rng h0
  unfold nyW nsW
  by_cases h : b < 4503599627370496
  · obtain ⟨s1, s2⟩ := sig_sub h
    have hl : b.log2 ≤ 52 := int_log (by omega) (by omega)
    rw [if_pos h, if_pos h, s1, s2]
    refine ⟨by omega, by omega, by omega, by omega, by omega⟩
  · obtain ⟨l1, l2, l3, l4⟩ := nrm_big (b := b) (by omega)
    have hu := up_lt hb
    rw [if_neg h, if_neg h, l1, l2]
    refine ⟨hb, by omega, by omega, by omega, by omega⟩
theorem ny_mul {b : Nat} (h0 : 0 < b) (h : b < 4503599627370496) : Ieee.double.mul b 4841369599423283200 = some (nyW b) := by
  obtain ⟨n1, n2⟩ := nrm_rng h0
  obtain ⟨s1, s2⟩ := sig_sub h
  have hl : b.log2 ≤ 52 := int_log (by omega) (by omega)
  have e1 : sigW 4841369599423283200 = 4503599627370496 := by decide +kernel
  have e2 : upW 4841369599423283200 = 1074 := by decide +kernel
  obtain ⟨p1, p2⟩ := sig_put (u := b.log2) n1 n2
  have e3 : (2 : Nat) ^ 52 = 4503599627370496 := by decide
  have hy : nyW b = b.log2 * 4503599627370496 + nrmW b := by rw [nyW, if_pos h]
  rw [hy]
  refine mul_exact b.log2 (by omega) (by decide) (by omega) (by omega) (.inl ⟨?_, ?_⟩)
  · rw [e1, p1, s1, nrmW, s1, Nat.mul_assoc, ← Nat.pow_add, show 52 - b.log2 + b.log2 = 52 by omega, e3]
  · rw [e2, p2, s2]; omega
theorem c_norm (b : Nat) (h0 : 0 < b) (hb : b < 9218868437227405312) (w : World) : Calls Tryd.prog 120 #[.float .f64 b] w fun e w' => e = .returned (.tuple #[.float .f64 (nyW b), .int .i64 (nsW b)]) ∧ w' = w := by
  have HA := hide (c_abs b b (by omega) (by omega))
  have ho := ord_lt (a := b) (b := 4503599627370496) (by omega) (by decide)
  by_cases h : b < 4503599627370496
  · have hm : ∀ W : World, (binOp .mul 31 (.float .f64 b) (.float .f64 4841369599423283200)).run Tryd.prog W = .ok (.float .f64 (nyW b)) W := fun W => run_float_arith W .mul _ .f64 b _ _ (ny_mul h0 h)
    have hs : nsW b = -52 := by rw [nsW, if_pos h]
    rw [hs]
    rw [decide_eq_true h] at ho
    obtain ⟨y, hy⟩ : ∃ y, nyW b = y := ⟨_, rfl⟩
    rw [hy] at hm ⊢
    clear hs hy h h0 hb
    go_enter Tryd.func120, Tryd.ntmps120
    go_wp2_with fail
    refine (HA.out _).mono ?_
    rintro e w1 ⟨rfl, rfl⟩
    go_wp2_with fail
    exact bodyPost_ret (v := .tuple #[.float .f64 y, .int .i64 (-52)]) (by simp [results, Tryd.results120, go_sem]) rfl ⟨rfl, rfl⟩
  · have hs : nsW b = 0 := by rw [nsW, if_neg h]
    have hy : nyW b = b := by rw [nyW, if_neg h]
    rw [hs, hy]
    rw [decide_eq_false h] at ho
    clear hs hy h h0 hb
    go_enter Tryd.func120, Tryd.ntmps120
    go_wp2_with fail
    refine (HA.out _).mono ?_
    rintro e w1 ⟨rfl, rfl⟩
    go_wp2_with fail
    exact bodyPost_ret (v := .tuple #[.float .f64 b, .int .i64 0]) (by simp [results, Tryd.results120, go_sem]) rfl ⟨rfl, rfl⟩
/-- Frexp's fraction, and exponent. -/
def frW (b : Nat) : Nat := nrmW b - 4503599627370496 + 1022 * 4503599627370496
def fxW (b : Nat) : Int := (upW b : Int) - 1073 + (sigW b).log2
set_option maxRecDepth 100000 in
set_option maxHeartbeats 800000 in
theorem c_frexp (b : Nat) (h0 : 0 < b) (hb : b < 9218868437227405312) (w : World) : Calls Tryd.prog 94 #[.float .f64 b] w fun e w' => e = .returned (.tuple #[.float .f64 (frW b), .int .i64 (fxW b)]) ∧ w' = w := by
  obtain ⟨f1, f2, f3, f4, f5⟩ := ny_fact h0 hb
  have HN := hide (c_norm b h0 hb)
  have HI := hide (c_isinf b b (by omega) (by omega))
  have hi := inf_told (c := b) (by omega)
  rw [decide_eq_false (by omega)] at hi
  have hnan := nan_fin (b := b) (by omega)
  have hz := ord_zero (b := b) (by omega)
  rw [decide_eq_false (by omega)] at hz
  obtain ⟨y, hy⟩ : ∃ y, nyW b = y := ⟨_, rfl⟩
  obtain ⟨s, hs⟩ : ∃ s, nsW b = s := ⟨_, rfl⟩
  have hs2 : -52 ≤ s ∧ s ≤ 0 := by rw [← hs]; unfold nsW; split <;> omega
  rw [hy, hs] at HN
  rw [hy] at f1 f2 f4 f5
  rw [hy, hs] at f3
  obtain ⟨E, hE⟩ : ∃ E, y / 4503599627370496 = E := ⟨_, rfl⟩
  rw [hE] at f3 f4 f5
  have hyE : (y : Int) / 4503599627370496 = (E : Int) := by omega
  have hbe := b_low E (by omega)
  rw [Nat.mod_eq_of_lt (show E < 2048 by omega)] at hbe
  have hbm := b_mask (b := y) (by omega)
  rw [f2] at hbm
  obtain ⟨z, hzz⟩ : ∃ z, nrmW b - 4503599627370496 = z := ⟨_, rfl⟩
  rw [hzz] at hbm
  have hzl : z < 4503599627370496 := by have := nrm_rng h0; omega
  have ek : ((1022 * 4503599627370496 : Nat) : Int) = 4602678819172646912 := by omega
  have hbo := b_or (c := 1022) hzl (by omega)
  rw [ek] at hbo
  clear ek
  obtain ⟨fr, hfr⟩ : ∃ fr, z + 1022 * 4503599627370496 = fr := ⟨_, rfl⟩
  rw [hfr] at hbo
  have hR1 : frW b = fr := by rw [frW, hzz, hfr]
  have HR2 : Hid (fxW b = s + (E - 1023 + 1)) := hide (by unfold fxW; omega)
  rw [hR1]
  have hff := run_ffrom fr
  have hfb := run_fbits y
  have HE := hide (show 1 ≤ E ∧ E ≤ 2046 from ⟨f4, f5⟩)
  have HS := hide hs2
  clear f1 f2 f3 f4 f5 h0 hb hy hs hE hzz hzl hfr hR1 hs2
  go_enter Tryd.func94, Tryd.ntmps94
  go_wp2_with fail
  refine (HI.out _).mono ?_
  rintro e w1 ⟨rfl, rfl⟩
  rw [hi]
  go_wp2_with fail
  refine (c_isnan b _).mono ?_
  rintro e w1 ⟨rfl, rfl⟩
  rw [hnan]
  go_wp2_with fail
  refine (HN.out _).mono ?_
  rintro e w1 ⟨rfl, rfl⟩
  go_wp2_with fail
  refine bodyPost_ret (v := .tuple #[.float .f64 fr, .int .i64 (wrap64 (s + wrap64 (wrap64 (wrap64 (E : Int) - 1023) + 1)))]) (by simp [results, Tryd.results94, go_sem]) rfl ⟨?_, rfl⟩
  have h1 := HE.out
  have h2 := HS.out
  have h3 := HR2.out
  have e : wrap64 (s + wrap64 (wrap64 (wrap64 (E : Int) - 1023) + 1)) = fxW b := by
    rw [h3, IntWalk.wrap64_in (E : Int) (by omega), IntWalk.wrap64_in ((E : Int) - 1023) (by omega), IntWalk.wrap64_in ((E : Int) - 1023 + 1) (by omega), IntWalk.wrap64_in (s + ((E : Int) - 1023 + 1)) (by omega)]
  rw [e]
set_option maxRecDepth 100000 in
theorem c_Frexp (b : Nat) (h0 : 0 < b) (hb : b < 9218868437227405312) (w : World) : Calls Tryd.prog 69 #[.float .f64 b] w fun e w' => e = .returned (.tuple #[.float .f64 (frW b), .int .i64 (fxW b)]) ∧ w' = w := by
  have HF := hide (c_frexp b h0 hb)
  obtain ⟨x, hx⟩ : ∃ x, frW b = x := ⟨_, rfl⟩
  obtain ⟨p, hp⟩ : ∃ p, fxW b = p := ⟨_, rfl⟩
  rw [hx, hp] at HF ⊢
  clear hx hp h0 hb
  go_enter Tryd.func69, Tryd.ntmps69
  go_wp2_with fail
  refine (HF.out _).mono ?_
  rintro e w1 ⟨rfl, rfl⟩
  go_wp2_with fail
  exact bodyPost_ret (v := .tuple #[.float .f64 x, .int .i64 p]) (by simp [results, Tryd.results69, go_sem]) rfl ⟨rfl, rfl⟩
end Go.Proofs.YtckcadhjpjjmjaaDoor
namespace Go.Proofs
open Go.Shelf
def Tryd.laysM171_ren : Go.Shelf.Ren := ⟨fun | 171 => 77 | 243 => 99 | 246 => 123 | 283 => 116 | 284 => 117 | 285 => 118 | 286 => 119 | 129 => 133 | 317 => 132 | 318 => 134 | 319 => 135 | 320 => 136 | 337 => 143 | 338 => 72 | n => n, fun | 3 => 3 | 9 => 9 | 2 => 2 | 4 => 4 | 171 => 112 | 0 => 0 | 53 => 30 | 37 => 71 | 5 => 5 | 173 => 114 | 212 => 131 | 51 => 132 | 20 => 20 | 213 => 133 | 46 => 79 | 232 => 146 | 233 => 99 | n => n, fun | 17 => 4 | 18 => 8 | 19 => 1 | n => n⟩
theorem Tryd.laysM171 : Go.Proofs.LaysM.n171 Tryd.prog Tryd.laysM171_ren := {
  mixed := by kernel_rfl
  f129 := Tryd.func133.trans (congrArg some (by kernel_rfl))
  f171 := Tryd.func77.trans (congrArg some (by kernel_rfl))
  f243 := Tryd.func99.trans (congrArg some (by kernel_rfl))
  f246 := Tryd.func123.trans (congrArg some (by kernel_rfl))
  f283 := Tryd.func116.trans (congrArg some (by kernel_rfl))
  f284 := Tryd.func117.trans (congrArg some (by kernel_rfl))
  f285 := Tryd.func118.trans (congrArg some (by kernel_rfl))
  f286 := Tryd.func119.trans (congrArg some (by kernel_rfl))
  f317 := Tryd.func132.trans (congrArg some (by kernel_rfl))
  f318 := Tryd.func134.trans (congrArg some (by kernel_rfl))
  f319 := Tryd.func135.trans (congrArg some (by kernel_rfl))
  f320 := Tryd.func136.trans (congrArg some (by kernel_rfl))
  f337 := Tryd.func143.trans (congrArg some (by kernel_rfl))
  f338 := Tryd.func72.trans (congrArg some (by kernel_rfl))
  t0 := Tryd.underlying0
  a0 := Tryd.isAgg0
  z0 := Tryd.sizeOf0
  v0 := Tryd.zeroValue0
  t2 := Tryd.underlying2
  a2 := Tryd.isAgg2
  z2 := Tryd.sizeOf2
  v2 := Tryd.zeroValue2
  t3 := Tryd.underlying3
  a3 := Tryd.isAgg3
  z3 := Tryd.sizeOf3
  v3 := Tryd.zeroValue3
  t4 := Tryd.underlying4
  a4 := Tryd.isAgg4
  z4 := Tryd.sizeOf4
  v4 := Tryd.zeroValue4
  t5 := Tryd.underlying5
  a5 := Tryd.isAgg5
  z5 := Tryd.sizeOf5
  v5 := Tryd.zeroValue5
  t9 := Tryd.underlying9
  a9 := Tryd.isAgg9
  z9 := Tryd.sizeOf9
  v9 := Tryd.zeroValue9
  t20 := Tryd.underlying20
  a20 := Tryd.isAgg20
  z20 := Tryd.sizeOf20
  v20 := Tryd.zeroValue20
  t37 := Tryd.underlying71
  a37 := Tryd.isAgg71
  z37 := Tryd.sizeOf71
  v37 := Tryd.zeroValue71
  t46 := Tryd.underlying79
  a46 := Tryd.isAgg79
  z46 := Tryd.sizeOf79
  v46 := Tryd.zeroValue79
  t51 := Tryd.underlying132
  a51 := Tryd.isAgg132
  z51 := Tryd.sizeOf132
  v51 := Tryd.zeroValue132
  t53 := Tryd.underlying30
  a53 := Tryd.isAgg30
  z53 := Tryd.sizeOf30
  v53 := Tryd.zeroValue30
  t171 := Tryd.underlying112
  a171 := Tryd.isAgg112
  z171 := Tryd.sizeOf112
  v171 := Tryd.zeroValue112
  t173 := Tryd.underlying114
  a173 := Tryd.isAgg114
  z173 := Tryd.sizeOf114
  v173 := Tryd.zeroValue114
  t212 := Tryd.underlying131
  a212 := Tryd.isAgg131
  z212 := Tryd.sizeOf131
  v212 := Tryd.zeroValue131
  t213 := Tryd.underlying133
  a213 := Tryd.isAgg133
  z213 := Tryd.sizeOf133
  t232 := Tryd.underlying146
  a232 := Tryd.isAgg146
  z232 := Tryd.sizeOf146
  v232 := Tryd.zeroValue146
  t233 := Tryd.underlying99
  a233 := Tryd.isAgg99
  z233 := Tryd.sizeOf99
  v233 := Tryd.zeroValue99
  g17 := by kernel_rfl
  g18 := by kernel_rfl
  g19 := by kernel_rfl
  i0 := by kernel_rfl
  i2 := by kernel_rfl
  i3 := by kernel_rfl
  i4 := by kernel_rfl
  i5 := by kernel_rfl
  i9 := by kernel_rfl
  i20 := by kernel_rfl
  i37 := by kernel_rfl
  i46 := by kernel_rfl
  i51 := by kernel_rfl
  i53 := by kernel_rfl
  i171 := by kernel_rfl
  i173 := by kernel_rfl
  i212 := by kernel_rfl
  i232 := by kernel_rfl
  i233 := by kernel_rfl
  m17 := by kernel_rfl
  m18 := by kernel_rfl
  m19 := by kernel_rfl }
open Go.RowKit Go.Sort Go.Lib in
theorem Tryd.strconv_Itoa (n : Int) (h0 : -9223372036854775808 ≤ n) (h1 : n ≤ 9223372036854775807) (w : World) (htab : Lib.TabIs Tryd.prog w "internal/strconv.uint64pow10" .u64 Lib.pow10Tab) :
    Calls Tryd.prog 77 #[.int .i64 n] w fun e w' => e = .returned (.string ⟨(Lib.itoa n).toArray⟩) ∧ ∃ k os, w' = grow (w.drewN k) os := Any.strconv_Itoa Tryd.laysM171 n h0 h1 w htab
end Go.Proofs
namespace Go.Proofs.YtckcadhjpjjmjaaDoor
open Go.RowKit Go.Sort
abbrev PowAt (w : World) : Prop := Lib.TabIs Tryd.prog w "internal/strconv.uint64pow10" .u64 Lib.pow10Tab
theorem below_grow (w : World) (k : Nat) (os : Array Obj) : Below w.heap.size w (grow (w.drewN k) os) := below_grown_sl _ w k os (Nat.le_refl _)
theorem below_drewN (w : World) (k : Nat) : Below w.heap.size w (w.drewN k) := ⟨rfl, rfl, rfl, Nat.le_refl _, fun _ _ => rfl⟩
set_option maxRecDepth 100000 in
set_option maxHeartbeats 1600000 in
theorem c_parts4609434218613702656 (w : World) (hT : TzAt w) : Calls Tryd.prog 41 #[.float .f64 4609434218613702656] w fun e w' => e = .returned (.tuple #[.bool false, .int .u64 3, .int .i64 (-1)]) ∧ Below w.heap.size w w' := by
  have HT := hide hT
  clear hT
  have HC : Hid (Lib.ctz 64 6755399441055744 = 51) := hide (by decide +kernel)
  have q25 : (FloatKind.f64.format.order 4609434218613702656 0 == some .eq) = false := by decide +kernel
  have hcv : ∀ w : World, (convert 31 30 (.float .f64 4843621399236968448)).run Tryd.prog w = .ok (.int .u64 6755399441055744) w := fun w => by kernel_rfl
  go_enter Tryd.func41, Tryd.ntmps41
  go_wp2_with fail
  refine (c_isnan 4609434218613702656 _).mono ?_
  rintro e w1 ⟨rfl, rfl⟩
  rw [show nanD 4609434218613702656 = false by decide +kernel]
  go_wp2_with fail
  refine (c_signbit 4609434218613702656 (by decide) _).mono ?_
  rintro e w1 ⟨rfl, rfl⟩
  go_wp2_with fail
  refine (c_inf4609434218613702656 _).mono ?_
  rintro e w1 ⟨rfl, rfl⟩
  go_wp2_with fail
  refine (c_abs4609434218613702656 _).mono ?_
  rintro e w1 ⟨rfl, rfl⟩
  go_wp2_with fail
  refine (c_Frexp4609434218613702656 _).mono ?_
  rintro e w1 ⟨rfl, rfl⟩
  go_wp2_with fail
  refine (c_Ldexp4604930618986332160 _).mono ?_
  rintro e w1 ⟨rfl, rfl⟩
  go_wp2_with fail
  refine (c_tz 6755399441055744 (by decide) (by decide) _ HT.out).mono ?_
  rintro e w1 ⟨rfl, rfl⟩
  rw [HC.out]
  go_wp2_with fail
  go_quiet (fail)
  go_wp2_with fail
  exact bodyPost_ret (v := .tuple #[.bool false, .int .u64 3, .int .i64 (-1)]) (by simp [results, Tryd.results41, go_sem]) rfl ⟨rfl, below_drewN _ _⟩
set_option maxRecDepth 100000 in
set_option maxHeartbeats 1600000 in
theorem c_parts4620693217682128896 (w : World) (hT : TzAt w) : Calls Tryd.prog 41 #[.float .f64 4620693217682128896] w fun e w' => e = .returned (.tuple #[.bool false, .int .u64 1, .int .i64 3]) ∧ Below w.heap.size w w' := by
  have HT := hide hT
  clear hT
  have HC : Hid (Lib.ctz 64 4503599627370496 = 52) := hide (by decide +kernel)
  have q26 : (FloatKind.f64.format.order 4620693217682128896 0 == some .eq) = false := by decide +kernel
  have hcv : ∀ w : World, (convert 31 30 (.float .f64 4841369599423283200)).run Tryd.prog w = .ok (.int .u64 4503599627370496) w := fun w => by kernel_rfl
  go_enter Tryd.func41, Tryd.ntmps41
  go_wp2_with fail
  refine (c_isnan 4620693217682128896 _).mono ?_
  rintro e w1 ⟨rfl, rfl⟩
  rw [show nanD 4620693217682128896 = false by decide +kernel]
  go_wp2_with fail
  refine (c_signbit 4620693217682128896 (by decide) _).mono ?_
  rintro e w1 ⟨rfl, rfl⟩
  go_wp2_with fail
  refine (c_inf4620693217682128896 _).mono ?_
  rintro e w1 ⟨rfl, rfl⟩
  go_wp2_with fail
  refine (c_abs4620693217682128896 _).mono ?_
  rintro e w1 ⟨rfl, rfl⟩
  go_wp2_with fail
  refine (c_Frexp4620693217682128896 _).mono ?_
  rintro e w1 ⟨rfl, rfl⟩
  go_wp2_with fail
  refine (c_Ldexp4602678819172646912 _).mono ?_
  rintro e w1 ⟨rfl, rfl⟩
  go_wp2_with fail
  refine (c_tz 4503599627370496 (by decide) (by decide) _ HT.out).mono ?_
  rintro e w1 ⟨rfl, rfl⟩
  rw [HC.out]
  go_wp2_with fail
  go_quiet (fail)
  go_wp2_with fail
  exact bodyPost_ret (v := .tuple #[.bool false, .int .u64 1, .int .i64 3]) (by simp [results, Tryd.results41, go_sem]) rfl ⟨rfl, below_drewN _ _⟩
set_option maxRecDepth 100000 in
set_option maxHeartbeats 1600000 in
theorem c_text4609434218613702656 (w : World) (hT : TzAt w) (hp : PowAt w) : Calls Tryd.prog 45 #[.float .f64 4609434218613702656] w fun e w' => e = .returned (.string ⟨#[51, 112, 45, 49]⟩) ∧ Below w.heap.size w w' := by
  have HT := hide hT
  have HP := hide hp
  clear hT hp
  have q27 : (FloatKind.f64.format.order 4609434218613702656 0 == some .eq) = false := by decide +kernel
  have HD : Hid (txt (Lib.decDigits 3) = (⟨#[51]⟩ : ByteArray)) := hide (by decide +kernel)
  have HI : Hid ((⟨(Lib.itoa (-1)).toArray⟩ : ByteArray) = ⟨#[45, 49]⟩) := hide (by decide +kernel)
  go_enter Tryd.func45, Tryd.ntmps45
  go_wp2_with fail
  refine (c_isnan 4609434218613702656 _).mono ?_
  rintro e w1 ⟨rfl, rfl⟩
  rw [show nanD 4609434218613702656 = false by decide +kernel]
  go_wp2_with fail
  refine (c_parts4609434218613702656 _ HT.out).mono ?_
  rintro e w1 ⟨rfl, b1⟩
  have B1 := hide b1
  clear b1
  go_wp2_with fail
  refine (c_inf4609434218613702656 _).mono ?_
  rintro e w2 ⟨rfl, rfl⟩
  go_wp2_with fail
  refine (c_fmtuint 3 _ (by decide) (tab_below HP.out B1.out)).mono ?_
  rintro e w3 ⟨rfl, b3⟩
  have B3 := hide (B1.out.trans (b3.mono B1.out.size))
  clear b3
  rw [HD.out]
  go_wp2_with fail
  refine (Tryd.strconv_Itoa (-1) (by decide) (by decide) _ (tab_below HP.out B3.out)).mono ?_
  rintro e w4 ⟨rfl, k, os, rfl⟩
  have B4 := hide (B3.out.trans ((below_grow w3 k os).mono B3.out.size))
  rw [HI.out]
  go_wp2_with fail
  go_ret
  exact ⟨rfl, B4.out⟩
set_option maxRecDepth 100000 in
set_option maxHeartbeats 1600000 in
theorem c_text4620693217682128896 (w : World) (hT : TzAt w) (hp : PowAt w) : Calls Tryd.prog 45 #[.float .f64 4620693217682128896] w fun e w' => e = .returned (.string ⟨#[49, 112, 51]⟩) ∧ Below w.heap.size w w' := by
  have HT := hide hT
  have HP := hide hp
  clear hT hp
  have q28 : (FloatKind.f64.format.order 4620693217682128896 0 == some .eq) = false := by decide +kernel
  have HD : Hid (txt (Lib.decDigits 1) = (⟨#[49]⟩ : ByteArray)) := hide (by decide +kernel)
  have HI : Hid ((⟨(Lib.itoa 3).toArray⟩ : ByteArray) = ⟨#[51]⟩) := hide (by decide +kernel)
  go_enter Tryd.func45, Tryd.ntmps45
  go_wp2_with fail
  refine (c_isnan 4620693217682128896 _).mono ?_
  rintro e w1 ⟨rfl, rfl⟩
  rw [show nanD 4620693217682128896 = false by decide +kernel]
  go_wp2_with fail
  refine (c_parts4620693217682128896 _ HT.out).mono ?_
  rintro e w1 ⟨rfl, b1⟩
  have B1 := hide b1
  clear b1
  go_wp2_with fail
  refine (c_inf4620693217682128896 _).mono ?_
  rintro e w2 ⟨rfl, rfl⟩
  go_wp2_with fail
  refine (c_fmtuint 1 _ (by decide) (tab_below HP.out B1.out)).mono ?_
  rintro e w3 ⟨rfl, b3⟩
  have B3 := hide (B1.out.trans (b3.mono B1.out.size))
  clear b3
  rw [HD.out]
  go_wp2_with fail
  refine (Tryd.strconv_Itoa 3 (by decide) (by decide) _ (tab_below HP.out B3.out)).mono ?_
  rintro e w4 ⟨rfl, k, os, rfl⟩
  have B4 := hide (B3.out.trans ((below_grow w3 k os).mono B3.out.size))
  rw [HI.out]
  go_wp2_with fail
  go_ret
  exact ⟨rfl, B4.out⟩
set_option maxRecDepth 100000 in
set_option maxHeartbeats 1600000 in
theorem c_costalive (w : World) (hT : TzAt w) (hp : PowAt w) : Calls Tryd.prog 16 #[] w fun e w' => e = .returned (.bool true) ∧ Below w.heap.size w w' := by
  have HT := hide hT
  have HP := hide hp
  clear hT hp
  go_enter Tryd.func16, Tryd.ntmps16
  go_wp2_with fail
  refine (c_text4609434218613702656 _ HT.out HP.out).mono ?_
  rintro e w1 ⟨rfl, b1⟩
  have B1 := hide b1
  clear b1
  go_wp2_with fail
  refine (c_text4620693217682128896 _ (tab_below HT.out B1.out) (tab_below HP.out B1.out)).mono ?_
  rintro e w2 ⟨rfl, b2⟩
  have B2 := hide (B1.out.trans (b2.mono B1.out.size))
  clear b2
  go_wp2_with fail
  go_ret
  exact ⟨rfl, B2.out⟩
set_option maxRecDepth 100000 in
set_option maxHeartbeats 800000 in
theorem c_mnan (w : World) : Calls Tryd.prog 20 #[] w fun e w' => e = .returned (.float .f64 9221120237041090561) ∧ w' = w := by
  have ff561 : ∀ w : World, (callFunc 17 #[.int .u64 9221120237041090561]).run Tryd.prog w = .ok (.value (.float .f64 9221120237041090561)) w := run_ffrom 9221120237041090561
  go_enter Tryd.func20, Tryd.ntmps20
  go_wp2_with fail
  go_ret
  exact ⟨rfl, rfl⟩
set_option maxRecDepth 100000 in
set_option maxHeartbeats 800000 in
theorem c_minf (w : World) : Calls Tryd.prog 21 #[.int .i64 1] w fun e w' => e = .returned (.float .f64 9218868437227405312) ∧ w' = w := by
  have ff312 : ∀ w : World, (callFunc 17 #[.int .u64 9218868437227405312]).run Tryd.prog w = .ok (.value (.float .f64 9218868437227405312)) w := run_ffrom 9218868437227405312
  go_enter Tryd.func21, Tryd.ntmps21
  go_wp2_with fail
  go_ret
  exact ⟨rfl, rfl⟩
set_option maxRecDepth 100000 in
set_option maxHeartbeats 800000 in
theorem c_mcopy (w : World) : Calls Tryd.prog 22 #[.float .f64 0, .float .f64 13830554455654793216] w fun e w' => e = .returned (.float .f64 9223372036854775808) ∧ w' = w := by
  have fb0 : ∀ w : World, (callFunc 53 #[.float .f64 0]).run Tryd.prog w = .ok (.value (.int .u64 0)) w := run_fbits 0
  have fb216 : ∀ w : World, (callFunc 53 #[.float .f64 13830554455654793216]).run Tryd.prog w = .ok (.value (.int .u64 13830554455654793216)) w := run_fbits 13830554455654793216
  have ff808 : ∀ w : World, (callFunc 17 #[.int .u64 9223372036854775808]).run Tryd.prog w = .ok (.value (.float .f64 9223372036854775808)) w := run_ffrom 9223372036854775808
  have q29 : bits .andNot .u64 0 9223372036854775808 = 0 := by decide +kernel
  have q30 : bits .and .u64 13830554455654793216 9223372036854775808 = 9223372036854775808 := by decide +kernel
  have q31 : bits .or .u64 0 9223372036854775808 = 9223372036854775808 := by decide +kernel
  go_enter Tryd.func22, Tryd.ntmps22
  go_wp2_with fail
  go_ret
  exact ⟨rfl, rfl⟩
end Go.Proofs.YtckcadhjpjjmjaaDoor
namespace Go.Proofs.YtckcadhjpjjmjaaDoor
open Go.RowKit
set_option maxRecDepth 100000 in
theorem c_copy0 (x : Nat) (hx : x < 9218868437227405312) (w : World) : Calls Tryd.prog 22 #[.float .f64 0, .float .f64 x] w fun e w' => e = .returned (.float .f64 0) ∧ w' = w := by
  have h1 : ∀ w : World, (callFunc 53 #[.float .f64 0]).run Tryd.prog w = .ok (.value (.int .u64 0)) w := run_fbits 0
  have h2 := run_fbits x
  have h3 : ∀ w : World, (callFunc 17 #[.int .u64 0]).run Tryd.prog w = .ok (.value (.float .f64 0)) w := run_ffrom 0
  have q1 : bits .andNot .u64 0 9223372036854775808 = 0 := by decide +kernel
  have q2 : bits .and .u64 (x : Int) 9223372036854775808 = 0 := by
    rw [show (9223372036854775808 : Int) = ((9223372036854775808 : Nat) : Int) from rfl, bits_and_u64_nat x _ (by omega) (by decide)]
    have e2 : x &&& 2 ^ 63 = 0 := by
      apply Nat.eq_of_testBit_eq
      intro i
      rw [Nat.testBit_and, Nat.zero_testBit, Nat.testBit_two_pow]
      by_cases e : 63 = i
      · subst e; rw [Nat.testBit_lt_two_pow (show x < 2 ^ 63 by omega)]; rfl
      · simp [e]
    have e3 : (9223372036854775808 : Nat) = 2 ^ 63 := by decide +kernel
    rw [e3, e2]; rfl
  have q3 : bits .or .u64 0 0 = 0 := by decide +kernel
  clear hx
  go_enter Tryd.func22, Tryd.ntmps22
  go_wp2_with fail
  go_ret
  exact ⟨rfl, rfl⟩
theorem mulR_run {x y : Nat} (hx : x < 9218868437227405312) (hy : y < 9218868437227405312) (W : World) : (binOp .mul 31 (.float .f64 x) (.float .f64 y)).run Tryd.prog W = .ok (.float .f64 (mulR x y)) W := by
  obtain ⟨r, h1, -⟩ := mul_some hx hy
  rw [mulR, h1]
  exact run_float_arith W .mul _ .f64 x y r h1
set_option maxRecDepth 100000 in
set_option maxHeartbeats 1600000 in
theorem c_ldexp (x : Nat) (p : Int) (h0 : 4503599627370496 ≤ x) (hx : x < 9218868437227405312) (hp1 : -9223372036854775808 ≤ p) (hp2 : p ≤ 9223372036854775807) (w : World) : Calls Tryd.prog 96 #[.float .f64 x, .int .i64 p] w fun e w' => e = .returned (.float .f64 (ldW x p)) ∧ w' = w := by
  have HN := hide (c_norm x (by omega) hx)
  have hny : nyW x = x := by rw [nyW, if_neg (by omega)]
  have hns : nsW x = 0 := by rw [nsW, if_neg (by omega)]
  rw [hny, hns] at HN
  have HI := hide (c_isinf x x (by omega) (by omega))
  have hi := inf_told (c := x) (by omega)
  rw [decide_eq_false (by omega)] at hi
  have hnan := nan_fin (b := x) (by omega)
  have hz := ord_zero (b := x) (by omega)
  rw [decide_eq_false (by omega)] at hz
  have hlt0 : (FloatKind.f64.format.order x 0 == some .lt) = false := by rw [ord_lt (by omega) (by decide), decide_eq_false (by omega)]
  have hfb := run_fbits x
  obtain ⟨E, hE⟩ : ∃ E, x / 4503599627370496 = E := ⟨_, rfl⟩
  have hxE : (x : Int) / 4503599627370496 = (E : Int) := by omega
  have hEl : E < 2047 := by omega
  have hbe := b_low64 E (by omega)
  have hwE : wrap64 (E : Int) = E := IntWalk.wrap64_in _ (by omega)
  have hwp : wrap64 p = p := IntWalk.wrap64_in _ (by omega)
  have hw1 : wrap64 ((E : Int) - 1023) = (E : Int) - 1023 := IntWalk.wrap64_in _ (by omega)
  obtain ⟨F, hF⟩ : ∃ F, ldE x p = F := ⟨_, rfl⟩
  have hF2 : wrap64 (p + ((E : Int) - 1023)) = F := by rw [← hF, ldE, hE, IntWalk.i64_left]
  have hm := b_mask (b := x) (by omega)
  obtain ⟨z, hzz⟩ : ∃ z, x % 4503599627370496 = z := ⟨_, rfl⟩
  rw [hzz] at hm
  have hzl : z < 4503599627370496 := by omega
  have hC := c_copy0 x hx
  have HC := hide hC
  have HX := hide hx
  have HD : Hid (ldW x p = if F < -1075 then 0 else if 1023 < F then 9218868437227405312
    else if F < -1022 then mulR 4368491638549381120 (z + (F + 1076).toNat * 4503599627370496) else mulR 4607182418800017408 (z + (F + 1023).toNat * 4503599627370496)) := hide (by unfold ldW; rw [hF, hzz])
  have HZ := hide hzl
  clear h0 hx hp1 hp2 hny hns hE hEl hF hzz hC hzl
  by_cases h1 : F < -1075
  · rw [HD.out, if_pos h1]
    clear HD
    go_enter Tryd.func96, Tryd.ntmps96
    go_wp2_with fail
    refine (HI.out _).mono ?_
    rintro e w1 ⟨rfl, rfl⟩
    rw [hi]
    go_wp2_with fail
    refine (c_isnan x _).mono ?_
    rintro e w1 ⟨rfl, rfl⟩
    rw [hnan]
    go_wp2_with fail
    refine (HN.out _).mono ?_
    rintro e w1 ⟨rfl, rfl⟩
    go_wp2_with fail
    refine (HC.out _).mono ?_
    rintro e w1 ⟨rfl, rfl⟩
    go_wp2_with fail
    go_ret
    exact ⟨rfl, rfl⟩
  · by_cases h2 : 1023 < F
    · rw [HD.out, if_neg h1, if_pos h2]
      clear HD
      go_enter Tryd.func96, Tryd.ntmps96
      go_wp2_with fail
      refine (HI.out _).mono ?_
      rintro e w1 ⟨rfl, rfl⟩
      rw [hi]
      go_wp2_with fail
      refine (c_isnan x _).mono ?_
      rintro e w1 ⟨rfl, rfl⟩
      rw [hnan]
      go_wp2_with fail
      refine (HN.out _).mono ?_
      rintro e w1 ⟨rfl, rfl⟩
      go_wp2_with fail
      refine (c_minf _).mono ?_
      rintro e w1 ⟨rfl, rfl⟩
      go_wp2_with fail
      go_ret
      exact ⟨rfl, rfl⟩
    · by_cases h3 : F < -1022
      · obtain ⟨k, hk⟩ : ∃ k : Nat, (F + 1076).toNat = k := ⟨_, rfl⟩
        have hkl : (k : Int) = F + 1076 := by omega
        have HE : Hid (ldW x p = mulR 4368491638549381120 (z + k * 4503599627370496)) := hide (by rw [HD.out, if_neg h1, if_neg h2, if_pos h3, hk])
        have ho := b_or (a := z) (c := k) HZ.out (by omega)
        have hw5 : wrap64 (F + 53) = F + 53 := IntWalk.wrap64_in _ (by omega)
        have hw6 : wrap64 (F + 53 + 1023) = (k : Int) := by rw [IntWalk.wrap64_in _ (by omega)]; omega
        obtain ⟨y, hy⟩ : ∃ y, z + k * 4503599627370496 = y := ⟨_, rfl⟩
        have hyl : y < 9218868437227405312 := by have := HZ.out; omega
        rw [hy] at ho HE
        have hks : (F + 53 + 1023) * 4503599627370496 = ((k * 4503599627370496 : Nat) : Int) := by omega
        rw [← hks] at ho
        have hff := run_ffrom y
        have hM := mulR_run (x := 4368491638549381120) (y := y) (by decide) hyl
        rw [HE.out]
        obtain ⟨r, hr⟩ : ∃ r, mulR 4368491638549381120 y = r := ⟨_, rfl⟩
        rw [hr] at hM ⊢
        have hKL := hide hkl
        have hKN : (k : Int) < 2048 := by omega
        clear HD HE hy hyl hr hk hkl hks
        go_enter Tryd.func96, Tryd.ntmps96
        go_wp2_with fail
        refine (HI.out _).mono ?_
        rintro e w1 ⟨rfl, rfl⟩
        rw [hi]
        go_wp2_with fail
        refine (c_isnan x _).mono ?_
        rintro e w1 ⟨rfl, rfl⟩
        rw [hnan]
        go_wp2_with fail
        refine (HN.out _).mono ?_
        rintro e w1 ⟨rfl, rfl⟩
        go_wp2_with fail
        go_ret
        exact ⟨rfl, rfl⟩
      · obtain ⟨k, hk⟩ : ∃ k : Nat, (F + 1023).toNat = k := ⟨_, rfl⟩
        have hkl : (k : Int) = F + 1023 := by omega
        have HE : Hid (ldW x p = mulR 4607182418800017408 (z + k * 4503599627370496)) := hide (by rw [HD.out, if_neg h1, if_neg h2, if_neg h3, hk])
        have ho := b_or (a := z) (c := k) HZ.out (by omega)
        have hw6 : wrap64 (F + 1023) = (k : Int) := by rw [IntWalk.wrap64_in _ (by omega)]; omega
        obtain ⟨y, hy⟩ : ∃ y, z + k * 4503599627370496 = y := ⟨_, rfl⟩
        have hyl : y < 9218868437227405312 := by have := HZ.out; omega
        rw [hy] at ho HE
        have hks : (F + 1023) * 4503599627370496 = ((k * 4503599627370496 : Nat) : Int) := by omega
        rw [← hks] at ho
        have hff := run_ffrom y
        have hM := mulR_run (x := 4607182418800017408) (y := y) (by decide) hyl
        rw [HE.out]
        obtain ⟨r, hr⟩ : ∃ r, mulR 4607182418800017408 y = r := ⟨_, rfl⟩
        rw [hr] at hM ⊢
        have hKL := hide hkl
        have hKN : (k : Int) < 2048 := by omega
        clear HD HE hy hyl hr hk hkl hks
        go_enter Tryd.func96, Tryd.ntmps96
        go_wp2_with fail
        refine (HI.out _).mono ?_
        rintro e w1 ⟨rfl, rfl⟩
        rw [hi]
        go_wp2_with fail
        refine (c_isnan x _).mono ?_
        rintro e w1 ⟨rfl, rfl⟩
        rw [hnan]
        go_wp2_with fail
        refine (HN.out _).mono ?_
        rintro e w1 ⟨rfl, rfl⟩
        go_wp2_with fail
        go_ret
        exact ⟨rfl, rfl⟩
set_option maxRecDepth 100000 in
theorem c_Ldexp (x : Nat) (p : Int) (h0 : 4503599627370496 ≤ x) (hx : x < 9218868437227405312) (hp1 : -9223372036854775808 ≤ p) (hp2 : p ≤ 9223372036854775807) (w : World) : Calls Tryd.prog 71 #[.float .f64 x, .int .i64 p] w fun e w' => e = .returned (.float .f64 (ldW x p)) ∧ w' = w := by
  have HF := hide (c_ldexp x p h0 hx hp1 hp2)
  obtain ⟨r, hr⟩ : ∃ r, ldW x p = r := ⟨_, rfl⟩
  rw [hr] at HF ⊢
  clear hr h0 hx hp1 hp2
  go_enter Tryd.func71, Tryd.ntmps71
  go_wp2_with fail
  refine (HF.out _).mono ?_
  rintro e w1 ⟨rfl, rfl⟩
  go_wp2_with fail
  go_ret
  exact ⟨rfl, rfl⟩
/-- Of 0 there is nothing to shift. -/
theorem c_Ldexp0 (p : Int) (w : World) : Calls Tryd.prog 71 #[.float .f64 0, .int .i64 p] w fun e w' => e = .returned (.float .f64 0) ∧ w' = w := by
  have HF : Hid (∀ w : World, Calls Tryd.prog 96 #[.float .f64 0, .int .i64 p] w fun e w' => e = .returned (.float .f64 0) ∧ w' = w) := hide (fun w => by
    have hz : (FloatKind.f64.format.order 0 0 == some .eq) = true := by decide +kernel
    go_enter Tryd.func96, Tryd.ntmps96
    go_wp2_with fail
    go_ret
    exact ⟨rfl, rfl⟩)
  go_enter Tryd.func71, Tryd.ntmps71
  go_wp2_with fail
  refine (HF.out _).mono ?_
  rintro e w1 ⟨rfl, rfl⟩
  go_wp2_with fail
  go_ret
  exact ⟨rfl, rfl⟩
end Go.Proofs.YtckcadhjpjjmjaaDoor
