/- Regions that draw their order: the operations ahead of a forced tail each yield what they yield, in whatever order they come. No condition. -/
import Derived.Orders
import Derived.Tactics
import Derived.Below
import Derived.WalkKit
namespace Go.Proofs.YtckcadhjpjjmjaaDoor
open Go.RowKit

section
variable {P : Program} {ops : Array Oper}

/-- The operations that surely came ahead of one (so deep). -/
def needs (ops : Array Oper) : Nat → Nat → List Nat
  | 0, _ => []
  | f + 1, i => match ops[i]? with
    | none => []
    | some o => (o.after.toList.filter fun e => Region.binds .any e).flatMap fun e => e.on :: needs ops f e.on
def dstAt (ops : Array Oper) (i : Nat) : Option Tmp := (ops[i]?).bind (·.dst)
/-- What is looked up of a region: edges point back; no slot is written twice; from the n-th on each operation waits for all ahead of it. -/
def regOk (ops : Array Oper) (n : Nat) : Bool :=
  (List.range ops.size).all (fun i => ((ops[i]?).map fun o => o.after.all fun e => !Region.binds .any e || decide (e.on < i)).getD true) &&
  (List.range ops.size).all (fun i => (List.range i).all fun j => match dstAt ops i, dstAt ops j with | some d, some e => d != e || decide (n ≤ i) | _, _ => true) &&
  (List.range ops.size).all (fun i => decide (i < n) || (List.range i).all fun j => (needs ops ops.size i).contains j) && decide (n ≤ ops.size)
/-- Is it a slot that none of the first n operations writes? -/
def freeSlot (ops : Array Oper) (n : Nat) (t : Tmp) : Bool := (List.range n).all fun i => dstAt ops i != some t

/-- The values of the first n operations, laid in their slots. -/
def putN (ops : Array Oper) (vs : Nat → Value) : Nat → Act → Act
  | 0, a => a
  | n + 1, a => (putN ops vs n a).put (dstAt ops n) (vs n)

theorem put_size (a : Act) (d : Option Tmp) (v : Value) : (a.put d v).tmps.size = a.tmps.size := by cases d <;> simp [Act.put]
theorem put_defers' (a : Act) (d : Option Tmp) (v : Value) : (a.put d v).defers = a.defers := by cases d <;> rfl
theorem getD_put_same {a : Act} {d : Tmp} {v : Value} (h : d < a.tmps.size) : (a.put (some d) v).tmps.getD d undef = v := by
  simp [Act.put, h]
theorem getD_put_ne {a : Act} {d : Option Tmp} {t : Tmp} {v : Value} (h : d ≠ some t) : (a.put d v).tmps.getD t undef = a.tmps.getD t undef := by
  cases d with
  | none => rfl
  | some d =>
    have : d ≠ t := fun e => h (by rw [e])
    simp [Act.put, Array.getElem?_setIfInBounds_ne this]

def cnt (l : Array Bool) : Nat → Nat
  | 0 => 0
  | n + 1 => cnt l n + (if l.getD n false = true then 0 else 1)
theorem getD_set_same {l : Array Bool} {i : Nat} (h : i < l.size) (d : Bool) : (l.setIfInBounds i true).getD i d = true := by simp [h]
theorem cnt_far {l : Array Bool} {i : Nat} : ∀ {n : Nat}, n ≤ i → cnt (l.setIfInBounds i true) n = cnt l n
  | 0, _ => rfl
  | n + 1, h => by rw [cnt, cnt, cnt_far (by omega), getD_set_ne false (by omega)]
theorem cnt_set {l : Array Bool} {i : Nat} (hi : i < l.size) (h0 : l.getD i false = false) : ∀ {n : Nat}, i < n → cnt (l.setIfInBounds i true) n + 1 = cnt l n
  | 0, h => absurd h (by omega)
  | n + 1, h => by
    rw [cnt, cnt]
    by_cases e : i = n
    · subst e
      rw [cnt_far (Nat.le_refl _), getD_set_same hi, h0]
      simp
    · have := cnt_set hi h0 (n := n) (by omega)
      rw [getD_set_ne false e]
      omega
theorem cnt_zero {l : Array Bool} : ∀ {n : Nat}, cnt l n = 0 → ∀ i, i < n → l.getD i false = true
  | 0, _, i, hi => absurd hi (by omega)
  | n + 1, h, i, hi => by
    rw [cnt] at h
    by_cases e : i = n
    · subst e
      by_cases hb : l.getD i false = true
      · exact hb
      · rw [if_neg hb] at h; omega
    · exact cnt_zero (n := n) (by omega) i (by omega)

/-- What is listed waits for nothing that isn't. -/
def Closed (ops : Array Oper) (l : Array Bool) : Prop := ∀ (i : Nat) (o : Oper), ops[i]? = some o → l.getD i false = true → ∀ e ∈ o.after, Region.binds .any e = true → l.getD e.on false = true
theorem needs_listed {l : Array Bool} (hc : Closed ops l) : ∀ (f i : Nat) (o : Oper), ops[i]? = some o → (∀ e ∈ o.after, Region.binds .any e = true → l.getD e.on false = true) → ∀ j ∈ needs ops f i, l.getD j false = true
  | 0, _, _, _, _, j, hj => by simp [needs] at hj
  | f + 1, i, o, ho, he, j, hj => by
    rw [needs, ho] at hj
    simp only [List.mem_flatMap, List.mem_filter] at hj
    obtain ⟨e, ⟨hem, hb⟩, hj⟩ := hj
    have hl := he e (by simpa using hem) hb
    rcases List.mem_cons.1 hj with rfl | hj
    · exact hl
    · cases hq : ops[e.on]? with
      | none =>
        cases f with
        | zero => simp [needs] at hj
        | succ f => rw [needs, hq] at hj; simp at hj
      | some o' => exact needs_listed hc f e.on o' hq (hc e.on o' hq hl) j hj

theorem regOk_edges {n : Nat} (h : regOk ops n = true) {i : Nat} {o : Oper} (ho : ops[i]? = some o) : ∀ e ∈ o.after, Region.binds .any e = true → e.on < i := by
  intro e he hb
  simp only [regOk, Bool.and_eq_true, List.all_eq_true, List.mem_range] at h
  have hi : i < ops.size := (Array.getElem?_eq_some_iff.1 ho).1
  have h1 := h.1.1.1 i hi
  rw [ho] at h1
  simp only [Option.map_some, Option.getD_some, Array.all_eq_true_iff_forall_mem, Bool.or_eq_true, decide_eq_true_eq] at h1
  rcases h1 e he with h' | h'
  · simp [hb] at h'
  · exact h'
theorem regOk_tail {n : Nat} (h : regOk ops n = true) {i j : Nat} (hi : i < ops.size) (hn : n ≤ i) (hj : j < i) : j ∈ needs ops ops.size i := by
  simp only [regOk, Bool.and_eq_true, List.all_eq_true, List.mem_range, Bool.or_eq_true, decide_eq_true_eq] at h
  rcases h.1.2 i hi with h' | h'
  · omega
  · simpa using h' j hj
theorem regOk_dst {n : Nat} (h : regOk ops n = true) {i j : Nat} (hi : i < n) (hj : j < n) (hne : i ≠ j) {d : Tmp} (h1 : dstAt ops i = some d) (h2 : dstAt ops j = some d) : False := by
  have hn : n ≤ ops.size := by simp only [regOk, Bool.and_eq_true, decide_eq_true_eq] at h; exact h.2
  simp only [regOk, Bool.and_eq_true, List.all_eq_true, List.mem_range] at h
  have hd := h.1.1.2
  rcases Nat.lt_or_gt_of_ne hne with hlt | hlt
  · have := hd j (by omega) i hlt
    rw [h1, h2] at this
    simp at this
    omega
  · have := hd i (by omega) j hlt
    rw [h1, h2] at this
    simp at this
    omega

/-- The tail: one operation behind the other. -/
theorem wpAny_tail {Q : Exit → Act → World → Prop} {n : Nat} (hok : regOk ops n = true) : ∀ (fuel k : Nat) (l : Array Bool) (a : Act) (w : World), l.size = ops.size → n ≤ k → k ≤ ops.size → ops.size ≤ k + fuel →
    (∀ i, i < ops.size → (l.getD i false = true ↔ i < k)) → wpList P ops Q (ops.toList.drop k) a w → wpAny P .any ops Q fuel l a w := by
  intro fuel
  induction fuel with
  | zero =>
    intro k l a w hs hn hk hf hl h
    have hk' : k = ops.size := by omega
    refine ⟨?_, ?_⟩
    · apply List.eq_nil_iff_forall_not_mem.2
      intro j hj
      obtain ⟨h0, o, ho, _⟩ := mem_ready.1 hj
      have hj' : j < ops.size := (Array.getElem?_eq_some_iff.1 ho).1
      have := (hl j hj').2 (by omega)
      simp [hs, hj'] at h0 this
      simp [h0] at this
    · rw [hk', List.drop_eq_nil_of_le (by simp)] at h
      exact h
  | succ fuel ih =>
    intro k l a w hs hn hk hf hl h
    by_cases hke : k = ops.size
    · refine wpAny_done ?_ ?_ _
      · apply List.eq_nil_iff_forall_not_mem.2
        intro j hj
        obtain ⟨h0, o, ho, _⟩ := mem_ready.1 hj
        have hj' : j < ops.size := (Array.getElem?_eq_some_iff.1 ho).1
        have := (hl j hj').2 (by omega)
        simp [hs, hj'] at h0 this
        simp [h0] at this
      · rw [hke, List.drop_eq_nil_of_le (by simp)] at h
        exact h
    · have hk' : k < ops.size := by omega
      have hok' : ops[k]? = some ops[k] := Array.getElem?_eq_getElem hk'
      have hrk : k ∈ Region.ready .any ops l := by
        refine mem_ready.2 ⟨?_, _, hok', fun e he hb => (hl _ ?_).2 (regOk_edges hok hok' e he hb)⟩
        · have : ¬ l.getD k false = true := fun h' => by have := (hl k hk').1 h'; omega
          simp [hs, hk'] at this ⊢
          exact this
        · have := regOk_edges hok hok' e he hb; omega
      refine ⟨fun h0 => (by rw [h0] at hrk; simp at hrk), fun i hi => ?_⟩
      have hik : i = k := by
        obtain ⟨h0, o, ho, hall⟩ := mem_ready.1 hi
        have hi' : i < ops.size := (Array.getElem?_eq_some_iff.1 ho).1
        have h1 : ¬ i < k := fun hlt => by
          have := (hl i hi').2 hlt
          simp [hs, hi'] at h0 this
          simp [h0] at this
        rcases Nat.lt_or_ge k i with hlt | hge
        · have hcl : Closed ops l := fun i' o' ho' hl' e he hb => by
            have hi'' : i' < ops.size := (Array.getElem?_eq_some_iff.1 ho').1
            have h2 := (hl i' hi'').1 hl'
            have h3 := regOk_edges hok ho' e he hb
            exact (hl _ (by omega)).2 (by omega)
          have := needs_listed hcl ops.size i o ho hall k (regOk_tail hok hi' (by omega) hlt)
          have := (hl k hk').1 this
          omega
        · omega
      subst hik
      have hd : ops.toList.drop i = ops[i] :: ops.toList.drop (i + 1) := by
        rw [List.drop_eq_getElem_cons (by simpa using hk')]
        simp
      rw [hd] at h
      unfold wpList at h
      have hnext : ∀ a w, wpList P ops Q (ops.toList.drop (i + 1)) a w → wpAny P .any ops Q fuel (l.setIfInBounds i true) a w := by
        intro a w h
        refine ih (i + 1) _ a w (by simpa using hs) (by omega) (by omega) (by omega) (fun j hj => ?_) h
        by_cases e : i = j
        · subst e
          simp [hs, hk']
        · rw [getD_set_ne false e, hl j hj]
          omega
      unfold wpOp
      rw [hok']
      simp only
      split
      · rename_i hw
        rw [if_pos hw] at h
        exact h.imp (Oper.wp_mono hnext) id
      · rename_i hw
        rw [if_neg hw] at h
        exact hnext _ _ h

theorem putN_size (vs : Nat → Value) (a : Act) : ∀ n, (putN ops vs n a).tmps.size = a.tmps.size ∧ (putN ops vs n a).defers = a.defers
  | 0 => ⟨rfl, rfl⟩
  | n + 1 => by have := putN_size vs a n; exact ⟨(put_size _ _ _).trans this.1, (put_defers' _ _ _).trans this.2⟩
theorem putN_free (vs : Nat → Value) (a : Act) {t : Tmp} : ∀ n, (∀ i, i < n → dstAt ops i ≠ some t) → (putN ops vs n a).tmps.getD t undef = a.tmps.getD t undef
  | 0, _ => rfl
  | n + 1, h => by
    rw [putN, getD_put_ne (h n (by omega))]
    exact putN_free vs a n fun i hi => h i (by omega)
theorem putN_at (vs : Nat → Value) (a : Act) {t : Tmp} (ht : t < a.tmps.size) {i : Nat} (hi : dstAt ops i = some t) : ∀ n, i < n → (∀ j, j < n → j ≠ i → dstAt ops j ≠ some t) → (putN ops vs n a).tmps.getD t undef = vs i
  | 0, h, _ => absurd h (by omega)
  | n + 1, h, hd => by
    rw [putN]
    by_cases e : i = n
    · subst e
      rw [hi]
      exact getD_put_same (by rw [(putN_size vs a i).1]; exact ht)
    · rw [getD_put_ne (hd n (by omega) (fun e' => e e'.symm))]
      exact putN_at vs a ht hi n (by omega) fun j hj hne => hd j (by omega) hne

/-- THE LAW. S i: what is known of the value that operation i yields, and goes on to hold; Le: how worlds grow. -/
theorem wp_region_mono {Q : Exit → Act → World → Prop} {id : Nat} {a0 : Act} {w0 : World} (hm : P.follows .mixedOrders = true) (n : Nat) (hok : regOk ops n = true)
    (hslots : ((List.range n).all fun i => (dstAt ops i).all fun d => decide (d < a0.tmps.size)) = true)
    (Le : World → World → Prop) (hrefl : ∀ w, Le w w) (htrans : ∀ w w' w'', Le w w' → Le w' w'' → Le w w'')
    (S : Nat → Value → World → Prop) (hS : ∀ i v w w', Le w w' → S i v w → S i v w')
    (hop : ∀ i, i < n → ∀ o, ops[i]? = some o → ∀ (a : Act) (w : World), Le w0.drew w → a.defers = a0.defers → (∀ t, freeSlot ops n t = true → a.tmps.getD t undef = a0.tmps.getD t undef) →
      (∀ j d, (needs ops ops.size i).contains j = true → dstAt ops j = some d → S j (a.tmps.getD d undef) w) →
      ∀ K : Act → World → Prop, (∀ v w', Le w w' → S i v w' → K (a.put o.dst v) w') → if Region.wanted o (yielded ops a.tmps) = true then o.wp P a w K Q else K (a.put o.dst undef) w)
    (hQ : ∀ (vs : Nat → Value) (w : World), Le w0.drew w → (∀ i, i < n → (dstAt ops i).isSome = true → S i (vs i) w) → wpList P ops Q (ops.toList.drop n) (putN ops vs n a0) w) :
    (Code.region id ops true).wp P Q a0 w0 := by
  refine wp_region_any hm ?_
  have hnsz : n ≤ ops.size := by simp only [regOk, Bool.and_eq_true, decide_eq_true_eq] at hok; exact hok.2
  have hslot : ∀ i d, i < n → dstAt ops i = some d → d < a0.tmps.size := by
    intro i d hi hd
    have := List.all_eq_true.1 hslots i (by simpa using hi)
    rw [hd] at this
    simpa using this
  have key : ∀ (fuel : Nat) (l : Array Bool) (a : Act) (w : World), l.size = ops.size → cnt l ops.size ≤ fuel → Closed ops l → (∀ i, n ≤ i → i < ops.size → l.getD i false = false) → Le w0.drew w → a.defers = a0.defers → a.tmps.size = a0.tmps.size →
      (∀ t, (∀ i, i < n → l.getD i false = true → dstAt ops i ≠ some t) → a.tmps.getD t undef = a0.tmps.getD t undef) →
      (∀ i d, i < n → l.getD i false = true → dstAt ops i = some d → S i (a.tmps.getD d undef) w) → wpAny P .any ops Q fuel l a w := by
    intro fuel
    -- all of the first n are listed: the tail
    have tail : ∀ (fuel : Nat) (l : Array Bool) (a : Act) (w : World), l.size = ops.size → cnt l ops.size ≤ fuel → (∀ i, n ≤ i → i < ops.size → l.getD i false = false) → (∀ i, i < n → l.getD i false = true) → Le w0.drew w → a.defers = a0.defers → a.tmps.size = a0.tmps.size →
        (∀ t, (∀ i, i < n → l.getD i false = true → dstAt ops i ≠ some t) → a.tmps.getD t undef = a0.tmps.getD t undef) →
        (∀ i d, i < n → l.getD i false = true → dstAt ops i = some d → S i (a.tmps.getD d undef) w) → wpAny P .any ops Q fuel l a w := by
      intro fuel l a w hs hc ht hall hle hd hsz hfree hSi
      have hcn : ∀ m, m ≤ ops.size → n ≤ m → cnt l m = m - n := by
        intro m
        induction m with
        | zero => intro _ h; rw [cnt]; omega
        | succ m ih =>
          intro h1 h2
          rw [cnt]
          by_cases e : n = m + 1
          · have : ∀ q, q ≤ m + 1 → cnt l q = 0 := by
              intro q
              induction q with
              | zero => intro _; rfl
              | succ q ihq => intro hq; rw [cnt, ihq (by omega), if_pos (hall q (by omega))]
            have h3 := this m (by omega)
            rw [h3, if_pos (hall m (by omega))]; omega
          · rw [ih (by omega) (by omega), ht m (by omega) (by omega)]
            simp; omega
      refine wpAny_tail hok fuel n l a w hs (Nat.le_refl _) hnsz (by have := hcn ops.size (Nat.le_refl _) hnsz; omega) (fun i hi => ⟨fun h => ?_, fun h => hall i h⟩) ?_
      · rcases Nat.lt_or_ge i n with h' | h'
        · exact h'
        · rw [ht i h' hi] at h; cases h
      · have ha : a = putN ops (fun i => ((dstAt ops i).map fun d => a.tmps.getD d undef).getD undef) n a0 := by
          have h1 := putN_size (ops := ops) (fun i => ((dstAt ops i).map fun d => a.tmps.getD d undef).getD undef) a0 n
          have ht : a.tmps = (putN ops (fun i => ((dstAt ops i).map fun d => a.tmps.getD d undef).getD undef) n a0).tmps := by
            apply Array.ext
            · rw [h1.1, hsz]
            · intro t ht1 ht2
              have hg : a.tmps.getD t undef = (putN ops (fun i => ((dstAt ops i).map fun d => a.tmps.getD d undef).getD undef) n a0).tmps.getD t undef := by
                by_cases hex : ∃ i, i < n ∧ dstAt ops i = some t
                · obtain ⟨i, hi, hdi⟩ := hex
                  rw [putN_at _ a0 (hsz ▸ ht1) hdi n hi (fun j hj hne hdj => regOk_dst hok hj hi hne hdj hdi)]
                  simp only [hdi, Option.map_some, Option.getD_some]
                · rw [putN_free _ a0 n (fun i hi hdi => hex ⟨i, hi, hdi⟩)]
                  exact hfree t fun i hi _ hdi => hex ⟨i, hi, hdi⟩
              have e1 : ∀ (A : Array Value) (h : t < A.size), A.getD t undef = A[t] := fun A h => by unfold Array.getD; rw [dif_pos h]; rfl
              rw [e1 _ ht1, e1 _ ht2] at hg
              exact hg
          cases a with
          | mk ta da =>
            cases hp : putN ops (fun i => ((dstAt ops i).map fun d => (Act.mk ta da).tmps.getD d undef).getD undef) n a0 with
            | mk tb db =>
              rw [hp] at ht h1
              simp only at ht h1 hd
              rw [ht, hd, h1.2]
        rw [ha]
        refine hQ _ w hle fun i hi hsome => ?_
        obtain ⟨d, hdi⟩ := Option.isSome_iff_exists.1 hsome
        simp only [hdi, Option.map_some, Option.getD_some]
        exact hSi i d hi (hall i hi) hdi
    induction fuel with
    | zero =>
      intro l a w hs hc hcl ht hle hd hsz hfree hSi
      have hz := cnt_zero (l := l) (n := ops.size) (by omega)
      exact tail 0 l a w hs hc ht (fun i hi => hz i (by omega)) hle hd hsz hfree hSi
    | succ fuel ih =>
      intro l a w hs hc hcl ht hle hd hsz hfree hSi
      by_cases hall : ∀ i, i < n → l.getD i false = true
      · exact tail _ l a w hs hc ht hall hle hd hsz hfree hSi
      · refine ⟨fun h0 => absurd ?_ hall, fun i hi => ?_⟩
        · -- nothing is ready: all are listed
          intro i
          induction i using Nat.strongRecOn with
          | _ i ihi =>
            intro hi
            by_cases hb : l.getD i false = true
            · exact hb
            · exfalso
              have hi' : i < ops.size := by omega
              have : i ∈ Region.ready .any ops l := mem_ready.2 ⟨by simp [hs, hi'] at hb ⊢; exact hb, _, Array.getElem?_eq_getElem hi', fun e he hbd => by
                have hlt := regOk_edges hok (Array.getElem?_eq_getElem hi') e he hbd
                exact ihi e.on hlt (by omega)⟩
              rw [h0] at this
              simp at this
        · obtain ⟨h0, o, ho, hallo⟩ := mem_ready.1 hi
          have hi' : i < ops.size := (Array.getElem?_eq_some_iff.1 ho).1
          have h0' : l.getD i false = false := by simp [hs, hi'] at h0 ⊢; exact h0
          have hin : i < n := by
            rcases Nat.lt_or_ge i n with h' | h'
            · exact h'
            · exfalso
              refine hall fun j hj => needs_listed hcl ops.size i o ho hallo j (regOk_tail hok hi' h' (by omega))
          have hneeds := needs_listed hcl ops.size i o ho hallo
          have hdst : dstAt ops i = o.dst := by simp [dstAt, ho]
          have hnext : ∀ v w', Le w w' → S i v w' → wpAny P .any ops Q fuel (l.setIfInBounds i true) (a.put o.dst v) w' := by
            intro v w' hlw hSv
            refine ih _ _ _ (by simpa using hs) (by have := cnt_set (by omega) h0' hi'; omega) ?_ ?_ (htrans _ _ _ hle hlw) (by rw [put_defers']; exact hd) (by rw [put_size]; exact hsz) ?_ ?_
            · intro i' o' ho' hl' e he hb
              by_cases e' : i = i'
              · subst e'
                rw [ho] at ho'
                have := Option.some.inj ho'
                subst this
                exact getD_set_true (hallo e he hb)
              · rw [getD_set_ne false e'] at hl'
                exact getD_set_true (hcl i' o' ho' hl' e he hb)
            · intro j hj hj'
              rw [getD_set_ne false (by omega)]
              exact ht j hj hj'
            · intro t hft
              rw [getD_put_ne]
              · exact hfree t fun j hj hlj => hft j hj (getD_set_true hlj)
              · rw [← hdst]
                exact hft i hin (getD_set_same (by omega) _)
            · intro j d hj hlj hdj
              by_cases e : i = j
              · subst e
                rw [← hdst, hdj, getD_put_same (by rw [hsz]; exact hslot i d hin hdj)]
                exact hSv
              · rw [getD_set_ne false e] at hlj
                rw [getD_put_ne]
                · exact hS j _ w w' hlw (hSi j d hj hlj hdj)
                · rw [← hdst]
                  exact fun h => regOk_dst hok hin hj e h hdj
          have := hop i hin o ho a w hle hd (fun t hft => hfree t fun j hj _ hdj => by
              simp only [freeSlot, List.all_eq_true, List.mem_range, bne_iff_ne] at hft
              exact hft j hj hdj)
            (fun j d hj hdj => by
              have hjm : j ∈ needs ops ops.size i := by simpa using hj
              have hlj := hneeds j hjm
              have hjn : j < n := by
                rcases Nat.lt_or_ge j n with h' | h'
                · exact h'
                · exfalso
                  rcases Nat.lt_or_ge j ops.size with h'' | h''
                  · rw [ht j h' h''] at hlj; cases hlj
                  · simp [dstAt, Array.getElem?_eq_none h''] at hdj
              exact hSi j d hjn hlj hdj)
            (wpAny P .any ops Q fuel (l.setIfInBounds i true)) hnext
          unfold wpOp
          rw [ho]
          simp only
          split
          · rename_i hw; rw [if_pos hw] at this; exact .inl this
          · rename_i hw; rw [if_neg hw] at this; exact this
  refine key ops.size _ a0 w0.drew (by simp) ?_ ?_ ?_ (hrefl _) rfl rfl (fun _ _ => rfl) ?_
  · have : ∀ (l : Array Bool) m, cnt l m ≤ m := by
      intro l m
      induction m with
      | zero => exact Nat.le_refl _
      | succ m ih => rw [cnt]; split <;> omega
    exact this _ _
  · intro i o ho hl
    have hi : i < ops.size := (Array.getElem?_eq_some_iff.1 ho).1
    simp [hi] at hl
  · intro i _ hi
    simp [hi]
  · intro i d hi hl
    have : i < ops.size := by omega
    simp [this] at hl

/-- The world has grown: what was there is as it was. -/
def Ext (w w' : World) : Prop := Below w.heap.size w w'
theorem Ext.refl (w : World) : Ext w w := Below.refl _ _
theorem Ext.trans {w w' w'' : World} (h : Ext w w') (k : Ext w' w'') : Ext w w'' :=
  Below.trans h (Below.mono k h.size)
theorem Ext.drew (w : World) : Ext w w.drew := (Below.refl _ _).drew
theorem Ext.alloc (w : World) (o : Obj) : Ext w (w.alloc o) := (Below.refl _ _).alloc (Nat.le_refl _) o
theorem Ext.cell {w w' : World} (h : Ext w w') {a : Addr} {v : Value} (hc : w.cell? a = some v) : w'.cell? a = some v :=
  (Below.cell h (World.block_lt_of_cell? w a hc)).trans hc
theorem Ext.heap {w w' : World} (h : Ext w w') {b : Nat} {o : Obj} (hc : w.heap[b]? = some o) : w'.heap[b]? = some o := by
  have hlt : b < w.heap.size := by
    rcases Nat.lt_or_ge b w.heap.size with h' | h'
    · exact h'
    · rw [Array.getElem?_eq_none h'] at hc; cases hc
  exact (h.block b hlt).trans hc

/-- What is asked of an operation: whatever came ahead of it besides what it waits for. -/
def Hop (P : Program) (ops : Array Oper) (n : Nat) (a0 : Act) (w0 : World) (S : Nat → Value → World → Prop) (Q : Exit → Act → World → Prop) (i : Nat) (o : Oper) : Prop :=
  ∀ (a : Act) (w : World), Ext w0 w → a.defers = a0.defers → (∀ t, freeSlot ops n t = true → a.eval (.tmp t) = a0.eval (.tmp t)) →
    (∀ j d, (needs ops ops.size i).contains j = true → dstAt ops j = some d → S j (a.eval (.tmp d)) w) →
    ∀ K : Act → World → Prop, (∀ v w', Ext w w' → S i v w' → K (a.put o.dst v) w') →
      match o.guard with
      | none => o.wp P a w K Q
      | some (j, want) => if yielded ops a.tmps j = some want then o.wp P a w K Q else K (a.put o.dst undef) w
def Hops (P : Program) (ops : Array Oper) (n : Nat) (a0 : Act) (w0 : World) (S : Nat → Value → World → Prop) (Q : Exit → Act → World → Prop) : List Oper → Nat → Prop
  | [], _ => True
  | o :: r, i => Hop P ops n a0 w0 S Q i o ∧ Hops P ops n a0 w0 S Q r (i + 1)
theorem hops_at {n : Nat} {a0 : Act} {w0 : World} {S : Nat → Value → World → Prop} {Q : Exit → Act → World → Prop} : ∀ (l : List Oper) (k i : Nat) (o : Oper), Hops P ops n a0 w0 S Q l k → l[i]? = some o → Hop P ops n a0 w0 S Q (k + i) o
  | [], _, i, o, _, hi => by simp at hi
  | x :: l, k, 0, o, h, hi => by simp at hi; subst hi; exact h.1
  | x :: l, k, i + 1, o, h, hi => by
    have := hops_at l (k + 1) i o h.2 (by simpa using hi)
    rw [show k + (i + 1) = k + 1 + i from by omega]
    exact this
theorem wp_region_ext {Q : Exit → Act → World → Prop} {id : Nat} {a0 : Act} {w0 : World} (hm : P.follows .mixedOrders = true) (n : Nat) (S : Nat → Value → World → Prop) (hok : regOk ops n = true)
    (hslots : ((List.range n).all fun i => (dstAt ops i).all fun d => decide (d < a0.tmps.size)) = true)
    (hS : ∀ i v w w', Ext w w' → S i v w → S i v w') (hop : Hops P ops n a0 w0 S Q (ops.toList.take n) 0)
    (hQ : ∀ (vs : Nat → Value) (w : World), Ext w0 w → (∀ i, i < n → (dstAt ops i).isSome = true → S i (vs i) w) → wpList P ops Q (ops.toList.drop n) (putN ops vs n a0) w) :
    (Code.region id ops true).wp P Q a0 w0 := by
  refine wp_region_mono hm n hok hslots Ext Ext.refl (fun _ _ _ => Ext.trans) S hS (fun i hi o ho a w hle hd hf hs K hK => ?_) (fun vs w hle => hQ vs w ((Ext.drew _).trans hle))
  have h := hops_at _ 0 i o hop (by rw [List.getElem?_take, if_pos hi]; simpa using ho)
  rw [Nat.zero_add] at h
  have h := h a w ((Ext.drew _).trans hle) hd hf hs K hK
  cases hg : o.guard with
  | none =>
    rw [hg] at h
    rw [if_pos (by simp [Region.wanted, hg])]
    exact h
  | some jw =>
    obtain ⟨j, want⟩ := jw
    rw [hg] at h
    simp only at h
    split
    · rename_i hw
      rw [if_pos (by simpa [Region.wanted, hg] using hw)] at h
      exact h
    · rename_i hw
      rw [if_neg (by simpa [Region.wanted, hg] using hw)] at h
      exact h
end

end Go.Proofs.YtckcadhjpjjmjaaDoor
