/- The statement CostBounds, for every input, and its tied card. No condition. -/
import Derived.Orders
import Derived.Tactics
import Derived.Below
import Derived.WalkKit
import Derived.Test.YtckcadhjpjjmjaaDoorChecked
import Derived.Test.YtckcadhjpjjmjaaDoorCba
import Derived.Deep.QuietTactic
import Derived.BigQuiet
import Derived.Stop.LaidErr
import Derived.SizedLaws
import Derived.Test.YtckcadhjpjjmjaaDoorRows
import Derived.Test.YtckcadhjpjjmjaaDoorTie
import Derived.Test.YtckcadhjpjjmjaaDoorCards
import Derived.SevenTiedAt
namespace Go.Proofs.YtckcadhjpjjmjaaDoor
open Go.RowKit

section
variable {P : Program} {ops : Array Oper}

/-- The operations that surely came ahead of one (so deep). -/
def needs (ops : Array Oper) : Nat → Nat → List Nat
  | 0, _ => []
  | f + 1, i => match ops[i]? with
    | none => []
    | some o => (o.after.toList.filter fun e => Region.binds .any e).flatMap fun e => e.on :: needs ops f e.on
def dstAt (ops : Array Oper) (i : Nat) : Option Tmp := (ops[i]?).bind (·.dst)
/-- What is looked up of a region: edges point back; no slot is written twice; from the n-th on each operation waits for all ahead of it. -/
def regOk (ops : Array Oper) (n : Nat) : Bool :=
  (List.range ops.size).all (fun i => ((ops[i]?).map fun o => o.after.all fun e => !Region.binds .any e || decide (e.on < i)).getD true) &&
  (List.range ops.size).all (fun i => (List.range i).all fun j => match dstAt ops i, dstAt ops j with | some d, some e => d != e || decide (n ≤ i) | _, _ => true) &&
  (List.range ops.size).all (fun i => decide (i < n) || (List.range i).all fun j => (needs ops ops.size i).contains j) && decide (n ≤ ops.size)
/-- Is it a slot that none of the first n operations writes? -/
def freeSlot (ops : Array Oper) (n : Nat) (t : Tmp) : Bool := (List.range n).all fun i => dstAt ops i != some t

/-- The values of the first n operations, laid in their slots. -/
def putN (ops : Array Oper) (vs : Nat → Value) : Nat → Act → Act
  | 0, a => a
  | n + 1, a => (putN ops vs n a).put (dstAt ops n) (vs n)

theorem put_size (a : Act) (d : Option Tmp) (v : Value) : (a.put d v).tmps.size = a.tmps.size := by cases d <;> simp [Act.put]
theorem put_defers' (a : Act) (d : Option Tmp) (v : Value) : (a.put d v).defers = a.defers := by cases d <;> rfl
theorem getD_put_same {a : Act} {d : Tmp} {v : Value} (h : d < a.tmps.size) : (a.put (some d) v).tmps.getD d undef = v := by
  simp [Act.put, h]
theorem getD_put_ne {a : Act} {d : Option Tmp} {t : Tmp} {v : Value} (h : d ≠ some t) : (a.put d v).tmps.getD t undef = a.tmps.getD t undef := by
  cases d with
  | none => rfl
  | some d =>
    have : d ≠ t := fun e => h (by rw [e])
    simp [Act.put, Array.getElem?_setIfInBounds_ne this]

def cnt (l : Array Bool) : Nat → Nat
  | 0 => 0
  | n + 1 => cnt l n + (if l.getD n false = true then 0 else 1)
theorem getD_set_same {l : Array Bool} {i : Nat} (h : i < l.size) (d : Bool) : (l.setIfInBounds i true).getD i d = true := by simp [h]
theorem cnt_far {l : Array Bool} {i : Nat} : ∀ {n : Nat}, n ≤ i → cnt (l.setIfInBounds i true) n = cnt l n
  | 0, _ => rfl
  | n + 1, h => by rw [cnt, cnt, cnt_far (by omega), getD_set_ne false (by omega)]
theorem cnt_set {l : Array Bool} {i : Nat} (hi : i < l.size) (h0 : l.getD i false = false) : ∀ {n : Nat}, i < n → cnt (l.setIfInBounds i true) n + 1 = cnt l n
  | 0, h => absurd h (by omega)
  | n + 1, h => by
    rw [cnt, cnt]
    by_cases e : i = n
    · subst e
      rw [cnt_far (Nat.le_refl _), getD_set_same hi, h0]
      simp
    · have := cnt_set hi h0 (n := n) (by omega)
      rw [getD_set_ne false e]
      omega
theorem cnt_zero {l : Array Bool} : ∀ {n : Nat}, cnt l n = 0 → ∀ i, i < n → l.getD i false = true
  | 0, _, i, hi => absurd hi (by omega)
  | n + 1, h, i, hi => by
    rw [cnt] at h
    by_cases e : i = n
    · subst e
      by_cases hb : l.getD i false = true
      · exact hb
      · rw [if_neg hb] at h; omega
    · exact cnt_zero (n := n) (by omega) i (by omega)

/-- What is listed waits for nothing that isn't. -/
def Closed (ops : Array Oper) (l : Array Bool) : Prop := ∀ (i : Nat) (o : Oper), ops[i]? = some o → l.getD i false = true → ∀ e ∈ o.after, Region.binds .any e = true → l.getD e.on false = true
theorem needs_listed {l : Array Bool} (hc : Closed ops l) : ∀ (f i : Nat) (o : Oper), ops[i]? = some o → (∀ e ∈ o.after, Region.binds .any e = true → l.getD e.on false = true) → ∀ j ∈ needs ops f i, l.getD j false = true
  | 0, _, _, _, _, j, hj => by simp [needs] at hj
  | f + 1, i, o, ho, he, j, hj => by
    rw [needs, ho] at hj
    simp only [List.mem_flatMap, List.mem_filter] at hj
    obtain ⟨e, ⟨hem, hb⟩, hj⟩ := hj
    have hl := he e (by simpa using hem) hb
    rcases List.mem_cons.1 hj with rfl | hj
    · exact hl
    · cases hq : ops[e.on]? with
      | none =>
        cases f with
        | zero => simp [needs] at hj
        | succ f => rw [needs, hq] at hj; simp at hj
      | some o' => exact needs_listed hc f e.on o' hq (hc e.on o' hq hl) j hj

theorem regOk_edges {n : Nat} (h : regOk ops n = true) {i : Nat} {o : Oper} (ho : ops[i]? = some o) : ∀ e ∈ o.after, Region.binds .any e = true → e.on < i := by
  intro e he hb
  simp only [regOk, Bool.and_eq_true, List.all_eq_true, List.mem_range] at h
  have hi : i < ops.size := (Array.getElem?_eq_some_iff.1 ho).1
  have h1 := h.1.1.1 i hi
  rw [ho] at h1
  simp only [Option.map_some, Option.getD_some, Array.all_eq_true_iff_forall_mem, Bool.or_eq_true, decide_eq_true_eq] at h1
  rcases h1 e he with h' | h'
  · simp [hb] at h'
  · exact h'
theorem regOk_tail {n : Nat} (h : regOk ops n = true) {i j : Nat} (hi : i < ops.size) (hn : n ≤ i) (hj : j < i) : j ∈ needs ops ops.size i := by
  simp only [regOk, Bool.and_eq_true, List.all_eq_true, List.mem_range, Bool.or_eq_true, decide_eq_true_eq] at h
  rcases h.1.2 i hi with h' | h'
  · omega
  · simpa using h' j hj
theorem regOk_dst {n : Nat} (h : regOk ops n = true) {i j : Nat} (hi : i < n) (hj : j < n) (hne : i ≠ j) {d : Tmp} (h1 : dstAt ops i = some d) (h2 : dstAt ops j = some d) : False := by
  have hn : n ≤ ops.size := by simp only [regOk, Bool.and_eq_true, decide_eq_true_eq] at h; exact h.2
  simp only [regOk, Bool.and_eq_true, List.all_eq_true, List.mem_range] at h
  have hd := h.1.1.2
  rcases Nat.lt_or_gt_of_ne hne with hlt | hlt
  · have := hd j (by omega) i hlt
    rw [h1, h2] at this
    simp at this
    omega
  · have := hd i (by omega) j hlt
    rw [h1, h2] at this
    simp at this
    omega

/-- The tail: one operation behind the other. -/
theorem wpAny_tail {Q : Exit → Act → World → Prop} {n : Nat} (hok : regOk ops n = true) : ∀ (fuel k : Nat) (l : Array Bool) (a : Act) (w : World), l.size = ops.size → n ≤ k → k ≤ ops.size → ops.size ≤ k + fuel →
    (∀ i, i < ops.size → (l.getD i false = true ↔ i < k)) → wpList P ops Q (ops.toList.drop k) a w → wpAny P .any ops Q fuel l a w := by
  intro fuel
  induction fuel with
  | zero =>
    intro k l a w hs hn hk hf hl h
    have hk' : k = ops.size := by omega
    refine ⟨?_, ?_⟩
    · apply List.eq_nil_iff_forall_not_mem.2
      intro j hj
      obtain ⟨h0, o, ho, _⟩ := mem_ready.1 hj
      have hj' : j < ops.size := (Array.getElem?_eq_some_iff.1 ho).1
      have := (hl j hj').2 (by omega)
      simp [hs, hj'] at h0 this
      simp [h0] at this
    · rw [hk', List.drop_eq_nil_of_le (by simp)] at h
      exact h
  | succ fuel ih =>
    intro k l a w hs hn hk hf hl h
    by_cases hke : k = ops.size
    · refine wpAny_done ?_ ?_ _
      · apply List.eq_nil_iff_forall_not_mem.2
        intro j hj
        obtain ⟨h0, o, ho, _⟩ := mem_ready.1 hj
        have hj' : j < ops.size := (Array.getElem?_eq_some_iff.1 ho).1
        have := (hl j hj').2 (by omega)
        simp [hs, hj'] at h0 this
        simp [h0] at this
      · rw [hke, List.drop_eq_nil_of_le (by simp)] at h
        exact h
    · have hk' : k < ops.size := by omega
      have hok' : ops[k]? = some ops[k] := Array.getElem?_eq_getElem hk'
      have hrk : k ∈ Region.ready .any ops l := by
        refine mem_ready.2 ⟨?_, _, hok', fun e he hb => (hl _ ?_).2 (regOk_edges hok hok' e he hb)⟩
        · have : ¬ l.getD k false = true := fun h' => by have := (hl k hk').1 h'; omega
          simp [hs, hk'] at this ⊢
          exact this
        · have := regOk_edges hok hok' e he hb; omega
      refine ⟨fun h0 => (by rw [h0] at hrk; simp at hrk), fun i hi => ?_⟩
      have hik : i = k := by
        obtain ⟨h0, o, ho, hall⟩ := mem_ready.1 hi
        have hi' : i < ops.size := (Array.getElem?_eq_some_iff.1 ho).1
        have h1 : ¬ i < k := fun hlt => by
          have := (hl i hi').2 hlt
          simp [hs, hi'] at h0 this
          simp [h0] at this
        rcases Nat.lt_or_ge k i with hlt | hge
        · have hcl : Closed ops l := fun i' o' ho' hl' e he hb => by
            have hi'' : i' < ops.size := (Array.getElem?_eq_some_iff.1 ho').1
            have h2 := (hl i' hi'').1 hl'
            have h3 := regOk_edges hok ho' e he hb
            exact (hl _ (by omega)).2 (by omega)
          have := needs_listed hcl ops.size i o ho hall k (regOk_tail hok hi' (by omega) hlt)
          have := (hl k hk').1 this
          omega
        · omega
      subst hik
      have hd : ops.toList.drop i = ops[i] :: ops.toList.drop (i + 1) := by
        rw [List.drop_eq_getElem_cons (by simpa using hk')]
        simp
      rw [hd] at h
      unfold wpList at h
      have hnext : ∀ a w, wpList P ops Q (ops.toList.drop (i + 1)) a w → wpAny P .any ops Q fuel (l.setIfInBounds i true) a w := by
        intro a w h
        refine ih (i + 1) _ a w (by simpa using hs) (by omega) (by omega) (by omega) (fun j hj => ?_) h
        by_cases e : i = j
        · subst e
          simp [hs, hk']
        · rw [getD_set_ne false e, hl j hj]
          omega
      unfold wpOp
      rw [hok']
      simp only
      split
      · rename_i hw
        rw [if_pos hw] at h
        exact h.imp (Oper.wp_mono hnext) id
      · rename_i hw
        rw [if_neg hw] at h
        exact hnext _ _ h

theorem putN_size (vs : Nat → Value) (a : Act) : ∀ n, (putN ops vs n a).tmps.size = a.tmps.size ∧ (putN ops vs n a).defers = a.defers
  | 0 => ⟨rfl, rfl⟩
  | n + 1 => by have := putN_size vs a n; exact ⟨(put_size _ _ _).trans this.1, (put_defers' _ _ _).trans this.2⟩
theorem putN_free (vs : Nat → Value) (a : Act) {t : Tmp} : ∀ n, (∀ i, i < n → dstAt ops i ≠ some t) → (putN ops vs n a).tmps.getD t undef = a.tmps.getD t undef
  | 0, _ => rfl
  | n + 1, h => by
    rw [putN, getD_put_ne (h n (by omega))]
    exact putN_free vs a n fun i hi => h i (by omega)
theorem putN_at (vs : Nat → Value) (a : Act) {t : Tmp} (ht : t < a.tmps.size) {i : Nat} (hi : dstAt ops i = some t) : ∀ n, i < n → (∀ j, j < n → j ≠ i → dstAt ops j ≠ some t) → (putN ops vs n a).tmps.getD t undef = vs i
  | 0, h, _ => absurd h (by omega)
  | n + 1, h, hd => by
    rw [putN]
    by_cases e : i = n
    · subst e
      rw [hi]
      exact getD_put_same (by rw [(putN_size vs a i).1]; exact ht)
    · rw [getD_put_ne (hd n (by omega) (fun e' => e e'.symm))]
      exact putN_at vs a ht hi n (by omega) fun j hj hne => hd j (by omega) hne

/-- THE LAW. S i: what is known of the value that operation i yields, and goes on to hold; Le: how worlds grow. -/
theorem wp_region_mono {Q : Exit → Act → World → Prop} {id : Nat} {a0 : Act} {w0 : World} (hm : P.follows .mixedOrders = true) (n : Nat) (hok : regOk ops n = true)
    (hslots : ((List.range n).all fun i => (dstAt ops i).all fun d => decide (d < a0.tmps.size)) = true)
    (Le : World → World → Prop) (hrefl : ∀ w, Le w w) (htrans : ∀ w w' w'', Le w w' → Le w' w'' → Le w w'')
    (S : Nat → Value → World → Prop) (hS : ∀ i v w w', Le w w' → S i v w → S i v w')
    (hop : ∀ i, i < n → ∀ o, ops[i]? = some o → ∀ (a : Act) (w : World), Le w0.drew w → a.defers = a0.defers → (∀ t, freeSlot ops n t = true → a.tmps.getD t undef = a0.tmps.getD t undef) →
      (∀ j d, (needs ops ops.size i).contains j = true → dstAt ops j = some d → S j (a.tmps.getD d undef) w) →
      ∀ K : Act → World → Prop, (∀ v w', Le w w' → S i v w' → K (a.put o.dst v) w') → if Region.wanted o (yielded ops a.tmps) = true then o.wp P a w K Q else K (a.put o.dst undef) w)
    (hQ : ∀ (vs : Nat → Value) (w : World), Le w0.drew w → (∀ i, i < n → (dstAt ops i).isSome = true → S i (vs i) w) → wpList P ops Q (ops.toList.drop n) (putN ops vs n a0) w) :
    (Code.region id ops true).wp P Q a0 w0 := by
  refine wp_region_any hm ?_
  have hnsz : n ≤ ops.size := by simp only [regOk, Bool.and_eq_true, decide_eq_true_eq] at hok; exact hok.2
  have hslot : ∀ i d, i < n → dstAt ops i = some d → d < a0.tmps.size := by
    intro i d hi hd
    have := List.all_eq_true.1 hslots i (by simpa using hi)
    rw [hd] at this
    simpa using this
  have key : ∀ (fuel : Nat) (l : Array Bool) (a : Act) (w : World), l.size = ops.size → cnt l ops.size ≤ fuel → Closed ops l → (∀ i, n ≤ i → i < ops.size → l.getD i false = false) → Le w0.drew w → a.defers = a0.defers → a.tmps.size = a0.tmps.size →
      (∀ t, (∀ i, i < n → l.getD i false = true → dstAt ops i ≠ some t) → a.tmps.getD t undef = a0.tmps.getD t undef) →
      (∀ i d, i < n → l.getD i false = true → dstAt ops i = some d → S i (a.tmps.getD d undef) w) → wpAny P .any ops Q fuel l a w := by
    intro fuel
    -- all of the first n are listed: the tail
    have tail : ∀ (fuel : Nat) (l : Array Bool) (a : Act) (w : World), l.size = ops.size → cnt l ops.size ≤ fuel → (∀ i, n ≤ i → i < ops.size → l.getD i false = false) → (∀ i, i < n → l.getD i false = true) → Le w0.drew w → a.defers = a0.defers → a.tmps.size = a0.tmps.size →
        (∀ t, (∀ i, i < n → l.getD i false = true → dstAt ops i ≠ some t) → a.tmps.getD t undef = a0.tmps.getD t undef) →
        (∀ i d, i < n → l.getD i false = true → dstAt ops i = some d → S i (a.tmps.getD d undef) w) → wpAny P .any ops Q fuel l a w := by
      intro fuel l a w hs hc ht hall hle hd hsz hfree hSi
      have hcn : ∀ m, m ≤ ops.size → n ≤ m → cnt l m = m - n := by
        intro m
        induction m with
        | zero => intro _ h; rw [cnt]; omega
        | succ m ih =>
          intro h1 h2
          rw [cnt]
          by_cases e : n = m + 1
          · have : ∀ q, q ≤ m + 1 → cnt l q = 0 := by
              intro q
              induction q with
              | zero => intro _; rfl
              | succ q ihq => intro hq; rw [cnt, ihq (by omega), if_pos (hall q (by omega))]
            have h3 := this m (by omega)
            rw [h3, if_pos (hall m (by omega))]; omega
          · rw [ih (by omega) (by omega), ht m (by omega) (by omega)]
            simp; omega
      refine wpAny_tail hok fuel n l a w hs (Nat.le_refl _) hnsz (by have := hcn ops.size (Nat.le_refl _) hnsz; omega) (fun i hi => ⟨fun h => ?_, fun h => hall i h⟩) ?_
      · rcases Nat.lt_or_ge i n with h' | h'
        · exact h'
        · rw [ht i h' hi] at h; cases h
      · have ha : a = putN ops (fun i => ((dstAt ops i).map fun d => a.tmps.getD d undef).getD undef) n a0 := by
          have h1 := putN_size (ops := ops) (fun i => ((dstAt ops i).map fun d => a.tmps.getD d undef).getD undef) a0 n
          have ht : a.tmps = (putN ops (fun i => ((dstAt ops i).map fun d => a.tmps.getD d undef).getD undef) n a0).tmps := by
            apply Array.ext
            · rw [h1.1, hsz]
            · intro t ht1 ht2
              have hg : a.tmps.getD t undef = (putN ops (fun i => ((dstAt ops i).map fun d => a.tmps.getD d undef).getD undef) n a0).tmps.getD t undef := by
                by_cases hex : ∃ i, i < n ∧ dstAt ops i = some t
                · obtain ⟨i, hi, hdi⟩ := hex
                  rw [putN_at _ a0 (hsz ▸ ht1) hdi n hi (fun j hj hne hdj => regOk_dst hok hj hi hne hdj hdi)]
                  simp only [hdi, Option.map_some, Option.getD_some]
                · rw [putN_free _ a0 n (fun i hi hdi => hex ⟨i, hi, hdi⟩)]
                  exact hfree t fun i hi _ hdi => hex ⟨i, hi, hdi⟩
              have e1 : ∀ (A : Array Value) (h : t < A.size), A.getD t undef = A[t] := fun A h => by unfold Array.getD; rw [dif_pos h]; rfl
              rw [e1 _ ht1, e1 _ ht2] at hg
              exact hg
          cases a with
          | mk ta da =>
            cases hp : putN ops (fun i => ((dstAt ops i).map fun d => (Act.mk ta da).tmps.getD d undef).getD undef) n a0 with
            | mk tb db =>
              rw [hp] at ht h1
              simp only at ht h1 hd
              rw [ht, hd, h1.2]
        rw [ha]
        refine hQ _ w hle fun i hi hsome => ?_
        obtain ⟨d, hdi⟩ := Option.isSome_iff_exists.1 hsome
        simp only [hdi, Option.map_some, Option.getD_some]
        exact hSi i d hi (hall i hi) hdi
    induction fuel with
    | zero =>
      intro l a w hs hc hcl ht hle hd hsz hfree hSi
      have hz := cnt_zero (l := l) (n := ops.size) (by omega)
      exact tail 0 l a w hs hc ht (fun i hi => hz i (by omega)) hle hd hsz hfree hSi
    | succ fuel ih =>
      intro l a w hs hc hcl ht hle hd hsz hfree hSi
      by_cases hall : ∀ i, i < n → l.getD i false = true
      · exact tail _ l a w hs hc ht hall hle hd hsz hfree hSi
      · refine ⟨fun h0 => absurd ?_ hall, fun i hi => ?_⟩
        · -- nothing is ready: all are listed
          intro i
          induction i using Nat.strongRecOn with
          | _ i ihi =>
            intro hi
            by_cases hb : l.getD i false = true
            · exact hb
            · exfalso
              have hi' : i < ops.size := by omega
              have : i ∈ Region.ready .any ops l := mem_ready.2 ⟨by simp [hs, hi'] at hb ⊢; exact hb, _, Array.getElem?_eq_getElem hi', fun e he hbd => by
                have hlt := regOk_edges hok (Array.getElem?_eq_getElem hi') e he hbd
                exact ihi e.on hlt (by omega)⟩
              rw [h0] at this
              simp at this
        · obtain ⟨h0, o, ho, hallo⟩ := mem_ready.1 hi
          have hi' : i < ops.size := (Array.getElem?_eq_some_iff.1 ho).1
          have h0' : l.getD i false = false := by simp [hs, hi'] at h0 ⊢; exact h0
          have hin : i < n := by
            rcases Nat.lt_or_ge i n with h' | h'
            · exact h'
            · exfalso
              refine hall fun j hj => needs_listed hcl ops.size i o ho hallo j (regOk_tail hok hi' h' (by omega))
          have hneeds := needs_listed hcl ops.size i o ho hallo
          have hdst : dstAt ops i = o.dst := by simp [dstAt, ho]
          have hnext : ∀ v w', Le w w' → S i v w' → wpAny P .any ops Q fuel (l.setIfInBounds i true) (a.put o.dst v) w' := by
            intro v w' hlw hSv
            refine ih _ _ _ (by simpa using hs) (by have := cnt_set (by omega) h0' hi'; omega) ?_ ?_ (htrans _ _ _ hle hlw) (by rw [put_defers']; exact hd) (by rw [put_size]; exact hsz) ?_ ?_
            · intro i' o' ho' hl' e he hb
              by_cases e' : i = i'
              · subst e'
                rw [ho] at ho'
                have := Option.some.inj ho'
                subst this
                exact getD_set_true (hallo e he hb)
              · rw [getD_set_ne false e'] at hl'
                exact getD_set_true (hcl i' o' ho' hl' e he hb)
            · intro j hj hj'
              rw [getD_set_ne false (by omega)]
              exact ht j hj hj'
            · intro t hft
              rw [getD_put_ne]
              · exact hfree t fun j hj hlj => hft j hj (getD_set_true hlj)
              · rw [← hdst]
                exact hft i hin (getD_set_same (by omega) _)
            · intro j d hj hlj hdj
              by_cases e : i = j
              · subst e
                rw [← hdst, hdj, getD_put_same (by rw [hsz]; exact hslot i d hin hdj)]
                exact hSv
              · rw [getD_set_ne false e] at hlj
                rw [getD_put_ne]
                · exact hS j _ w w' hlw (hSi j d hj hlj hdj)
                · rw [← hdst]
                  exact fun h => regOk_dst hok hin hj e h hdj
          have := hop i hin o ho a w hle hd (fun t hft => hfree t fun j hj _ hdj => by
              simp only [freeSlot, List.all_eq_true, List.mem_range, bne_iff_ne] at hft
              exact hft j hj hdj)
            (fun j d hj hdj => by
              have hjm : j ∈ needs ops ops.size i := by simpa using hj
              have hlj := hneeds j hjm
              have hjn : j < n := by
                rcases Nat.lt_or_ge j n with h' | h'
                · exact h'
                · exfalso
                  rcases Nat.lt_or_ge j ops.size with h'' | h''
                  · rw [ht j h' h''] at hlj; cases hlj
                  · simp [dstAt, Array.getElem?_eq_none h''] at hdj
              exact hSi j d hjn hlj hdj)
            (wpAny P .any ops Q fuel (l.setIfInBounds i true)) hnext
          unfold wpOp
          rw [ho]
          simp only
          split
          · rename_i hw; rw [if_pos hw] at this; exact .inl this
          · rename_i hw; rw [if_neg hw] at this; exact this
  refine key ops.size _ a0 w0.drew (by simp) ?_ ?_ ?_ (hrefl _) rfl rfl (fun _ _ => rfl) ?_
  · have : ∀ (l : Array Bool) m, cnt l m ≤ m := by
      intro l m
      induction m with
      | zero => exact Nat.le_refl _
      | succ m ih => rw [cnt]; split <;> omega
    exact this _ _
  · intro i o ho hl
    have hi : i < ops.size := (Array.getElem?_eq_some_iff.1 ho).1
    simp [hi] at hl
  · intro i _ hi
    simp [hi]
  · intro i d hi hl
    have : i < ops.size := by omega
    simp [this] at hl

/-- The world has grown: what was there is as it was. -/
def Ext (w w' : World) : Prop := Below w.heap.size w w'
theorem Ext.refl (w : World) : Ext w w := Below.refl _ _
theorem Ext.trans {w w' w'' : World} (h : Ext w w') (k : Ext w' w'') : Ext w w'' :=
  Below.trans h (Below.mono k h.size)
theorem Ext.drew (w : World) : Ext w w.drew := (Below.refl _ _).drew
theorem Ext.alloc (w : World) (o : Obj) : Ext w (w.alloc o) := (Below.refl _ _).alloc (Nat.le_refl _) o
theorem Ext.cell {w w' : World} (h : Ext w w') {a : Addr} {v : Value} (hc : w.cell? a = some v) : w'.cell? a = some v :=
  (Below.cell h (World.block_lt_of_cell? w a hc)).trans hc
theorem Ext.heap {w w' : World} (h : Ext w w') {b : Nat} {o : Obj} (hc : w.heap[b]? = some o) : w'.heap[b]? = some o := by
  have hlt : b < w.heap.size := by
    rcases Nat.lt_or_ge b w.heap.size with h' | h'
    · exact h'
    · rw [Array.getElem?_eq_none h'] at hc; cases hc
  exact (h.block b hlt).trans hc

/-- What is asked of an operation: whatever came ahead of it besides what it waits for. -/
def Hop (P : Program) (ops : Array Oper) (n : Nat) (a0 : Act) (w0 : World) (S : Nat → Value → World → Prop) (Q : Exit → Act → World → Prop) (i : Nat) (o : Oper) : Prop :=
  ∀ (a : Act) (w : World), Ext w0 w → a.defers = a0.defers → (∀ t, freeSlot ops n t = true → a.eval (.tmp t) = a0.eval (.tmp t)) →
    (∀ j d, (needs ops ops.size i).contains j = true → dstAt ops j = some d → S j (a.eval (.tmp d)) w) →
    ∀ K : Act → World → Prop, (∀ v w', Ext w w' → S i v w' → K (a.put o.dst v) w') →
      match o.guard with
      | none => o.wp P a w K Q
      | some (j, want) => if yielded ops a.tmps j = some want then o.wp P a w K Q else K (a.put o.dst undef) w
def Hops (P : Program) (ops : Array Oper) (n : Nat) (a0 : Act) (w0 : World) (S : Nat → Value → World → Prop) (Q : Exit → Act → World → Prop) : List Oper → Nat → Prop
  | [], _ => True
  | o :: r, i => Hop P ops n a0 w0 S Q i o ∧ Hops P ops n a0 w0 S Q r (i + 1)
theorem hops_at {n : Nat} {a0 : Act} {w0 : World} {S : Nat → Value → World → Prop} {Q : Exit → Act → World → Prop} : ∀ (l : List Oper) (k i : Nat) (o : Oper), Hops P ops n a0 w0 S Q l k → l[i]? = some o → Hop P ops n a0 w0 S Q (k + i) o
  | [], _, i, o, _, hi => by simp at hi
  | x :: l, k, 0, o, h, hi => by simp at hi; subst hi; exact h.1
  | x :: l, k, i + 1, o, h, hi => by
    have := hops_at l (k + 1) i o h.2 (by simpa using hi)
    rw [show k + (i + 1) = k + 1 + i from by omega]
    exact this
theorem wp_region_ext {Q : Exit → Act → World → Prop} {id : Nat} {a0 : Act} {w0 : World} (hm : P.follows .mixedOrders = true) (n : Nat) (S : Nat → Value → World → Prop) (hok : regOk ops n = true)
    (hslots : ((List.range n).all fun i => (dstAt ops i).all fun d => decide (d < a0.tmps.size)) = true)
    (hS : ∀ i v w w', Ext w w' → S i v w → S i v w') (hop : Hops P ops n a0 w0 S Q (ops.toList.take n) 0)
    (hQ : ∀ (vs : Nat → Value) (w : World), Ext w0 w → (∀ i, i < n → (dstAt ops i).isSome = true → S i (vs i) w) → wpList P ops Q (ops.toList.drop n) (putN ops vs n a0) w) :
    (Code.region id ops true).wp P Q a0 w0 := by
  refine wp_region_mono hm n hok hslots Ext Ext.refl (fun _ _ _ => Ext.trans) S hS (fun i hi o ho a w hle hd hf hs K hK => ?_) (fun vs w hle => hQ vs w ((Ext.drew _).trans hle))
  have h := hops_at _ 0 i o hop (by rw [List.getElem?_take, if_pos hi]; simpa using ho)
  rw [Nat.zero_add] at h
  have h := h a w ((Ext.drew _).trans hle) hd hf hs K hK
  cases hg : o.guard with
  | none =>
    rw [hg] at h
    rw [if_pos (by simp [Region.wanted, hg])]
    exact h
  | some jw =>
    obtain ⟨j, want⟩ := jw
    rw [hg] at h
    simp only at h
    split
    · rename_i hw
      rw [if_pos (by simpa [Region.wanted, hg] using hw)] at h
      exact h
    · rename_i hw
      rw [if_neg (by simpa [Region.wanted, hg] using hw)] at h
      exact h
end

end Go.Proofs.YtckcadhjpjjmjaaDoor
namespace Go.Proofs.YtckcadhjpjjmjaaDoor
open Go.RowKit

section
variable {P : Program} {ops : Array Oper}

/-- THE LAW. S i: what is known of the value that operation i yields, and goes on to hold; Le: how worlds grow. -/
theorem wp_region_one {Q : Exit → Act → World → Prop} {id : Nat} {a0 : Act} {w0 : World} (hm : P.follows .mixedOrders = true) (n : Nat) (hok : regOk ops n = true)
    (hslots : ((List.range n).all fun i => (dstAt ops i).all fun d => decide (d < a0.tmps.size)) = true)
    (Le : World → World → Prop) (hrefl : ∀ w, Le w w) (htrans : ∀ w w' w'', Le w w' → Le w' w'' → Le w w'')
    (e : Nat) (T : World → Prop) (Lt : World → World → Prop) (hlt : ∀ w w', Lt w w' → Le w w') (hT0 : T w0.drew) (hT : ∀ w w', Lt w w' → T w → T w')
    (S : Nat → Value → World → Prop) (hS : ∀ i v w w', i ≠ e → Le w w' → S i v w → S i v w') (hSe : ∀ v w w', Lt w w' → S e v w → S e v w')
    (hop : ∀ i, i < n → ∀ o, ops[i]? = some o → ∀ (a : Act) (w : World), Le w0.drew w → a.defers = a0.defers → (∀ t, freeSlot ops n t = true → a.tmps.getD t undef = a0.tmps.getD t undef) →
      (∀ j d, (needs ops ops.size i).contains j = true → dstAt ops j = some d → S j (a.tmps.getD d undef) w) →
      (i = e → T w) → ∀ K : Act → World → Prop, (∀ v w', (Lt w w' ∨ i = e ∧ Le w w') → S i v w' → K (a.put o.dst v) w') → if Region.wanted o (yielded ops a.tmps) = true then o.wp P a w K Q else K (a.put o.dst undef) w)
    (hQ : ∀ (vs : Nat → Value) (w : World), Le w0.drew w → (∀ i, i < n → (dstAt ops i).isSome = true → S i (vs i) w) → wpList P ops Q (ops.toList.drop n) (putN ops vs n a0) w) :
    (Code.region id ops true).wp P Q a0 w0 := by
  refine wp_region_any hm ?_
  have hnsz : n ≤ ops.size := by simp only [regOk, Bool.and_eq_true, decide_eq_true_eq] at hok; exact hok.2
  have hslot : ∀ i d, i < n → dstAt ops i = some d → d < a0.tmps.size := by
    intro i d hi hd
    have := List.all_eq_true.1 hslots i (by simpa using hi)
    rw [hd] at this
    simpa using this
  have key : ∀ (fuel : Nat) (l : Array Bool) (a : Act) (w : World), (l.getD e false = false → T w) → l.size = ops.size → cnt l ops.size ≤ fuel → Closed ops l → (∀ i, n ≤ i → i < ops.size → l.getD i false = false) → Le w0.drew w → a.defers = a0.defers → a.tmps.size = a0.tmps.size →
      (∀ t, (∀ i, i < n → l.getD i false = true → dstAt ops i ≠ some t) → a.tmps.getD t undef = a0.tmps.getD t undef) →
      (∀ i d, i < n → l.getD i false = true → dstAt ops i = some d → S i (a.tmps.getD d undef) w) → wpAny P .any ops Q fuel l a w := by
    intro fuel
    -- all of the first n are listed: the tail
    have tail : ∀ (fuel : Nat) (l : Array Bool) (a : Act) (w : World), l.size = ops.size → cnt l ops.size ≤ fuel → (∀ i, n ≤ i → i < ops.size → l.getD i false = false) → (∀ i, i < n → l.getD i false = true) → Le w0.drew w → a.defers = a0.defers → a.tmps.size = a0.tmps.size →
        (∀ t, (∀ i, i < n → l.getD i false = true → dstAt ops i ≠ some t) → a.tmps.getD t undef = a0.tmps.getD t undef) →
        (∀ i d, i < n → l.getD i false = true → dstAt ops i = some d → S i (a.tmps.getD d undef) w) → wpAny P .any ops Q fuel l a w := by
      intro fuel l a w hs hc ht hall hle hd hsz hfree hSi
      have hcn : ∀ m, m ≤ ops.size → n ≤ m → cnt l m = m - n := by
        intro m
        induction m with
        | zero => intro _ h; rw [cnt]; omega
        | succ m ih =>
          intro h1 h2
          rw [cnt]
          by_cases e : n = m + 1
          · have : ∀ q, q ≤ m + 1 → cnt l q = 0 := by
              intro q
              induction q with
              | zero => intro _; rfl
              | succ q ihq => intro hq; rw [cnt, ihq (by omega), if_pos (hall q (by omega))]
            have h3 := this m (by omega)
            rw [h3, if_pos (hall m (by omega))]; omega
          · rw [ih (by omega) (by omega), ht m (by omega) (by omega)]
            simp; omega
      refine wpAny_tail hok fuel n l a w hs (Nat.le_refl _) hnsz (by have := hcn ops.size (Nat.le_refl _) hnsz; omega) (fun i hi => ⟨fun h => ?_, fun h => hall i h⟩) ?_
      · rcases Nat.lt_or_ge i n with h' | h'
        · exact h'
        · rw [ht i h' hi] at h; cases h
      · have ha : a = putN ops (fun i => ((dstAt ops i).map fun d => a.tmps.getD d undef).getD undef) n a0 := by
          have h1 := putN_size (ops := ops) (fun i => ((dstAt ops i).map fun d => a.tmps.getD d undef).getD undef) a0 n
          have ht : a.tmps = (putN ops (fun i => ((dstAt ops i).map fun d => a.tmps.getD d undef).getD undef) n a0).tmps := by
            apply Array.ext
            · rw [h1.1, hsz]
            · intro t ht1 ht2
              have hg : a.tmps.getD t undef = (putN ops (fun i => ((dstAt ops i).map fun d => a.tmps.getD d undef).getD undef) n a0).tmps.getD t undef := by
                by_cases hex : ∃ i, i < n ∧ dstAt ops i = some t
                · obtain ⟨i, hi, hdi⟩ := hex
                  rw [putN_at _ a0 (hsz ▸ ht1) hdi n hi (fun j hj hne hdj => regOk_dst hok hj hi hne hdj hdi)]
                  simp only [hdi, Option.map_some, Option.getD_some]
                · rw [putN_free _ a0 n (fun i hi hdi => hex ⟨i, hi, hdi⟩)]
                  exact hfree t fun i hi _ hdi => hex ⟨i, hi, hdi⟩
              have e1 : ∀ (A : Array Value) (h : t < A.size), A.getD t undef = A[t] := fun A h => by unfold Array.getD; rw [dif_pos h]; rfl
              rw [e1 _ ht1, e1 _ ht2] at hg
              exact hg
          cases a with
          | mk ta da =>
            cases hp : putN ops (fun i => ((dstAt ops i).map fun d => (Act.mk ta da).tmps.getD d undef).getD undef) n a0 with
            | mk tb db =>
              rw [hp] at ht h1
              simp only at ht h1 hd
              rw [ht, hd, h1.2]
        rw [ha]
        refine hQ _ w hle fun i hi hsome => ?_
        obtain ⟨d, hdi⟩ := Option.isSome_iff_exists.1 hsome
        simp only [hdi, Option.map_some, Option.getD_some]
        exact hSi i d hi (hall i hi) hdi
    induction fuel with
    | zero =>
      intro l a w hTl hs hc hcl ht hle hd hsz hfree hSi
      have hz := cnt_zero (l := l) (n := ops.size) (by omega)
      exact tail 0 l a w hs hc ht (fun i hi => hz i (by omega)) hle hd hsz hfree hSi
    | succ fuel ih =>
      intro l a w hTl hs hc hcl ht hle hd hsz hfree hSi
      by_cases hall : ∀ i, i < n → l.getD i false = true
      · exact tail _ l a w hs hc ht hall hle hd hsz hfree hSi
      · refine ⟨fun h0 => absurd ?_ hall, fun i hi => ?_⟩
        · -- nothing is ready: all are listed
          intro i
          induction i using Nat.strongRecOn with
          | _ i ihi =>
            intro hi
            by_cases hb : l.getD i false = true
            · exact hb
            · exfalso
              have hi' : i < ops.size := by omega
              have : i ∈ Region.ready .any ops l := mem_ready.2 ⟨by simp [hs, hi'] at hb ⊢; exact hb, _, Array.getElem?_eq_getElem hi', fun e he hbd => by
                have hlt := regOk_edges hok (Array.getElem?_eq_getElem hi') e he hbd
                exact ihi e.on hlt (by omega)⟩
              rw [h0] at this
              simp at this
        · obtain ⟨h0, o, ho, hallo⟩ := mem_ready.1 hi
          have hi' : i < ops.size := (Array.getElem?_eq_some_iff.1 ho).1
          have h0' : l.getD i false = false := by simp [hs, hi'] at h0 ⊢; exact h0
          have hin : i < n := by
            rcases Nat.lt_or_ge i n with h' | h'
            · exact h'
            · exfalso
              refine hall fun j hj => needs_listed hcl ops.size i o ho hallo j (regOk_tail hok hi' h' (by omega))
          have hneeds := needs_listed hcl ops.size i o ho hallo
          have hdst : dstAt ops i = o.dst := by simp [dstAt, ho]
          have hnext : ∀ v w', (Lt w w' ∨ i = e ∧ Le w w') → S i v w' → wpAny P .any ops Q fuel (l.setIfInBounds i true) (a.put o.dst v) w' := by
            intro v w' hlo hSv
            have hlw : Le w w' := hlo.elim (hlt _ _) And.right
            refine ih _ _ _ (fun hfe => ?_) (by simpa using hs) (by have := cnt_set (by omega) h0' hi'; omega) ?_ ?_ (htrans _ _ _ hle hlw) (by rw [put_defers']; exact hd) (by rw [put_size]; exact hsz) ?_ ?_
            · have hne : i ≠ e := fun h => by
                subst h
                rw [getD_set_same (by omega)] at hfe
                cases hfe
              rw [getD_set_ne false hne] at hfe
              rcases hlo with h | ⟨h, -⟩
              · exact hT _ _ h (hTl hfe)
              · exact absurd h hne
            · intro i' o' ho' hl' e he hb
              by_cases e' : i = i'
              · subst e'
                rw [ho] at ho'
                have := Option.some.inj ho'
                subst this
                exact getD_set_true (hallo e he hb)
              · rw [getD_set_ne false e'] at hl'
                exact getD_set_true (hcl i' o' ho' hl' e he hb)
            · intro j hj hj'
              rw [getD_set_ne false (by omega)]
              exact ht j hj hj'
            · intro t hft
              rw [getD_put_ne]
              · exact hfree t fun j hj hlj => hft j hj (getD_set_true hlj)
              · rw [← hdst]
                exact hft i hin (getD_set_same (by omega) _)
            · intro j d hj hlj hdj
              by_cases eij : i = j
              · subst eij
                rw [← hdst, hdj, getD_put_same (by rw [hsz]; exact hslot i d hin hdj)]
                exact hSv
              · rw [getD_set_ne false eij] at hlj
                rw [getD_put_ne]
                · by_cases hje : j = e
                  · subst hje
                    rcases hlo with h | ⟨h, -⟩
                    · exact hSe _ w w' h (hSi j d hj hlj hdj)
                    · exact absurd h eij
                  · exact hS j _ w w' hje hlw (hSi j d hj hlj hdj)
                · rw [← hdst]
                  exact fun h => regOk_dst hok hin hj eij h hdj
          have := hop i hin o ho a w hle hd (fun t hft => hfree t fun j hj _ hdj => by
              simp only [freeSlot, List.all_eq_true, List.mem_range, bne_iff_ne] at hft
              exact hft j hj hdj)
            (fun j d hj hdj => by
              have hjm : j ∈ needs ops ops.size i := by simpa using hj
              have hlj := hneeds j hjm
              have hjn : j < n := by
                rcases Nat.lt_or_ge j n with h' | h'
                · exact h'
                · exfalso
                  rcases Nat.lt_or_ge j ops.size with h'' | h''
                  · rw [ht j h' h''] at hlj; cases hlj
                  · simp [dstAt, Array.getElem?_eq_none h''] at hdj
              exact hSi j d hjn hlj hdj)
            (fun h => hTl (h ▸ h0')) (wpAny P .any ops Q fuel (l.setIfInBounds i true)) hnext
          unfold wpOp
          rw [ho]
          simp only
          split
          · rename_i hw; rw [if_pos hw] at this; exact .inl this
          · rename_i hw; rw [if_neg hw] at this; exact this
  refine key ops.size _ a0 w0.drew (fun _ => hT0) (by simp) ?_ ?_ ?_ (hrefl _) rfl rfl (fun _ _ => rfl) ?_
  · have : ∀ (l : Array Bool) m, cnt l m ≤ m := by
      intro l m
      induction m with
      | zero => exact Nat.le_refl _
      | succ m ih => rw [cnt]; split <;> omega
    exact this _ _
  · intro i o ho hl
    have hi : i < ops.size := (Array.getElem?_eq_some_iff.1 ho).1
    simp [hi] at hl
  · intro i _ hi
    simp [hi]
  · intro i d hi hl
    have : i < ops.size := by omega
    simp [this] at hl

theorem grownBy_refl (w : World) (o : Option Nat) : w.grownBy w o := ⟨rfl, rfl, rfl, Nat.le_refl _, fun _ _ _ => rfl⟩
theorem grownBy_trans {w w' w'' : World} {o : Option Nat} (h : w.grownBy w' o) (k : w'.grownBy w'' o) : w.grownBy w'' o :=
  ⟨k.os.trans h.os, k.tape.trans h.tape, k.output.trans h.output, Nat.le_trans h.size k.size, fun i hi hn => (k.block i (Nat.lt_of_lt_of_le hi h.size) hn).trans (h.block i hi hn)⟩
theorem grownBy_ext {w w' : World} {o : Option Nat} (h : Ext w w') : w.grownBy w' o := ⟨h.os, h.tape, h.output, h.size, fun i hi _ => h.block i hi⟩

def Hop1 (P : Program) (ops : Array Oper) (n : Nat) (a0 : Act) (w0 : World) (b : Option Nat) (e : Nat) (T : World → Prop) (S : Nat → Value → World → Prop) (Q : Exit → Act → World → Prop) (i : Nat) (o : Oper) : Prop :=
  ∀ (a : Act) (w : World), w0.grownBy w b → a.defers = a0.defers → (∀ t, freeSlot ops n t = true → a.eval (.tmp t) = a0.eval (.tmp t)) →
    (∀ j d, (needs ops ops.size i).contains j = true → dstAt ops j = some d → S j (a.eval (.tmp d)) w) → (i = e → T w) →
    ∀ K : Act → World → Prop, (∀ v w', (Ext w w' ∨ i = e ∧ w.grownBy w' b) → S i v w' → K (a.put o.dst v) w') →
      match o.guard with
      | none => o.wp P a w K Q
      | some (j, want) => if yielded ops a.tmps j = some want then o.wp P a w K Q else K (a.put o.dst undef) w
def Hops1 (P : Program) (ops : Array Oper) (n : Nat) (a0 : Act) (w0 : World) (b : Option Nat) (e : Nat) (T : World → Prop) (S : Nat → Value → World → Prop) (Q : Exit → Act → World → Prop) : List Oper → Nat → Prop
  | [], _ => True
  | o :: r, i => Hop1 P ops n a0 w0 b e T S Q i o ∧ Hops1 P ops n a0 w0 b e T S Q r (i + 1)
theorem hops1_at {n : Nat} {a0 : Act} {w0 : World} {b : Option Nat} {e : Nat} {T : World → Prop} {S : Nat → Value → World → Prop} {Q : Exit → Act → World → Prop} : ∀ (l : List Oper) (k i : Nat) (o : Oper), Hops1 P ops n a0 w0 b e T S Q l k → l[i]? = some o → Hop1 P ops n a0 w0 b e T S Q (k + i) o
  | [], _, i, o, _, hi => by simp at hi
  | x :: l, k, 0, o, h, hi => by simp at hi; subst hi; exact h.1
  | x :: l, k, i + 1, o, h, hi => by
    have := hops1_at l (k + 1) i o h.2 (by simpa using hi)
    rw [show k + (i + 1) = k + 1 + i from by omega]
    exact this
/-- b: the block that operation e may change; T: what holds until e is done. -/
theorem wp_region_own {Q : Exit → Act → World → Prop} {id : Nat} {a0 : Act} {w0 : World} (hm : P.follows .mixedOrders = true) (n : Nat) (b : Option Nat) (e : Nat) (T : World → Prop) (S : Nat → Value → World → Prop) (hok : regOk ops n = true)
    (hslots : ((List.range n).all fun i => (dstAt ops i).all fun d => decide (d < a0.tmps.size)) = true) (hT0 : T w0) (hT : ∀ w w', Ext w w' → T w → T w')
    (hS : ∀ i v w w', i ≠ e → w.grownBy w' b → S i v w → S i v w') (hSe : ∀ v w w', Ext w w' → S e v w → S e v w') (hop : Hops1 P ops n a0 w0 b e T S Q (ops.toList.take n) 0)
    (hQ : ∀ (vs : Nat → Value) (w : World), w0.grownBy w b → (∀ i, i < n → (dstAt ops i).isSome = true → S i (vs i) w) → wpList P ops Q (ops.toList.drop n) (putN ops vs n a0) w) :
    (Code.region id ops true).wp P Q a0 w0 := by
  refine wp_region_one hm n hok hslots (fun w w' => w.grownBy w' b) (fun w => grownBy_refl w b) (fun _ _ _ => grownBy_trans) e T Ext (fun _ _ => grownBy_ext) (hT _ _ (Ext.drew _) hT0) hT S hS hSe (fun i hi o ho a w hle hd hf hs hTi K hK => ?_) (fun vs w hle => hQ vs w (grownBy_trans (grownBy_ext (Ext.drew _)) hle))
  have h := hops1_at _ 0 i o hop (by rw [List.getElem?_take, if_pos hi]; simpa using ho)
  rw [Nat.zero_add] at h
  have h := h a w (grownBy_trans (grownBy_ext (Ext.drew _)) hle) hd hf hs hTi K hK
  cases hg : o.guard with
  | none =>
    rw [hg] at h
    rw [if_pos (by simp [Region.wanted, hg])]
    exact h
  | some jw =>
    obtain ⟨j, want⟩ := jw
    rw [hg] at h
    simp only at h
    split
    · rename_i hw
      rw [if_pos (by simpa [Region.wanted, hg] using hw)] at h
      exact h
    · rename_i hw
      rw [if_neg (by simpa [Region.wanted, hg] using hw)] at h
      exact h
end
end Go.Proofs.YtckcadhjpjjmjaaDoor
namespace Go.Proofs.YtckcadhjpjjmjaaDoor
open Go.RowKit
section
variable {ops : Array Oper}
def edgeB (ops : Array Oper) (i j : Nat) : Bool := ((ops[i]?).map fun o => o.after.toList.any fun e => Region.binds .any e && e.on == j).getD false
theorem edgeB_iff {i j : Nat} : edgeB ops i j = true ↔ ∃ o, ops[i]? = some o ∧ ∃ e ∈ o.after.toList, Region.binds .any e = true ∧ e.on = j := by
  unfold edgeB
  cases ho : ops[i]? with
  | none => simp
  | some o =>
    simp only [Option.map_some, Option.getD_some, List.any_eq_true, Bool.and_eq_true, beq_iff_eq]
    exact ⟨fun ⟨e, he, h⟩ => ⟨o, rfl, e, he, h⟩, fun ⟨o', ho', e, he, h⟩ => by cases ho'; exact ⟨e, he, h⟩⟩
theorem needs_one {i j : Nat} (h : edgeB ops i j = true) (f : Nat) : j ∈ needs ops (f + 1) i := by
  obtain ⟨o, ho, e, he, hb, rfl⟩ := edgeB_iff.1 h
  rw [needs, ho]
  simp only [List.mem_flatMap, List.mem_filter]
  exact ⟨e, ⟨he, hb⟩, by simp⟩
theorem needs_cons {i j f : Nat} (h : j ∈ needs ops (f + 1) i) : ∃ l, edgeB ops i l = true ∧ (j = l ∨ j ∈ needs ops f l) := by
  rw [needs] at h
  cases ho : ops[i]? with
  | none => rw [ho] at h; simp at h
  | some o =>
    rw [ho] at h
    simp only [List.mem_flatMap, List.mem_filter, List.mem_cons] at h
    obtain ⟨e, ⟨he, hb⟩, h⟩ := h
    exact ⟨e.on, edgeB_iff.2 ⟨o, ho, e, he, hb, rfl⟩, h⟩
theorem needs_step {i j l f : Nat} (h1 : edgeB ops i l = true) (h : j ∈ needs ops f l) : j ∈ needs ops (f + 1) i := by
  obtain ⟨o, ho, e, he, hb, rfl⟩ := edgeB_iff.1 h1
  rw [needs, ho]
  simp only [List.mem_flatMap, List.mem_filter, List.mem_cons]
  exact ⟨e, ⟨he, hb⟩, .inr h⟩
theorem needs_more : ∀ {f i j : Nat}, j ∈ needs ops f i → j ∈ needs ops (f + 1) i
  | 0, i, j, h => by simp [needs] at h
  | f + 1, i, j, h => by
    obtain ⟨l, h1, h2⟩ := needs_cons h
    rcases h2 with rfl | h2
    · exact needs_one h1 _
    · exact needs_step h1 (needs_more h2)
theorem needs_le {f g i j : Nat} (h : j ∈ needs ops f i) (hg : f ≤ g) : j ∈ needs ops g i := by
  obtain ⟨d, rfl⟩ : ∃ d, g = f + d := ⟨g - f, by omega⟩
  clear hg
  induction d with
  | zero => exact h
  | succ d ih => exact needs_more ih
theorem needs_snoc : ∀ {f i j l : Nat}, j ∈ needs ops f i → edgeB ops j l = true → l ∈ needs ops (f + 1) i
  | 0, i, j, l, h, _ => by simp [needs] at h
  | f + 1, i, j, l, h, he => by
    obtain ⟨k, h1, h2⟩ := needs_cons h
    rcases h2 with rfl | h2
    · exact needs_step h1 (needs_one he _)
    · exact needs_step h1 (needs_snoc h2 he)
/-- What lies ahead of operation i: from j on down. -/
def reach (ops : Array Oper) (i : Nat) : Nat → List Nat → List Nat
  | 0, acc => acc
  | j + 1, acc => reach ops i j (if acc.any (fun l => edgeB ops l j) then j :: acc else acc)
theorem reach_sound (hd : ∀ i j, edgeB ops i j = true → j < i) (i : Nat) : ∀ (k : Nat) (acc : List Nat), (∀ l ∈ acc, l = i ∨ (l < i ∧ l ∈ needs ops (i - l) i)) → ∀ l ∈ reach ops i k acc, l = i ∨ (l < i ∧ l ∈ needs ops (i - l) i)
  | 0, acc, h => h
  | j + 1, acc, h => by
    rw [reach]
    refine reach_sound hd i j _ ?_
    split
    · rename_i ha
      obtain ⟨l, hl, he⟩ := List.any_eq_true.1 ha
      intro q hq
      rcases List.mem_cons.1 hq with rfl | hq
      · have hjl := hd l q he
        rcases h l hl with rfl | ⟨h1, h2⟩
        · exact .inr ⟨hjl, needs_le (needs_one he 0) (by omega)⟩
        · exact .inr ⟨by omega, needs_le (needs_snoc h2 he) (by omega)⟩
      · exact h q hq
    · exact h
def regOk3 (ops : Array Oper) (n : Nat) : Bool :=
  (List.range ops.size).all (fun i => ((ops[i]?).map fun o => o.after.all fun e => !Region.binds .any e || decide (e.on < i)).getD true) &&
  (List.range ops.size).all (fun i => (List.range i).all fun j => match dstAt ops i, dstAt ops j with | some d, some e => d != e || decide (n ≤ i) | _, _ => true) &&
  (List.range ops.size).all (fun i => decide (i < n) || (fun l => (List.range i).all fun j => l.contains j) (reach ops i i [i])) && decide (n ≤ ops.size)
theorem regOk_of {n : Nat} (h : regOk3 ops n = true) : regOk ops n = true := by
  simp only [regOk3, Bool.and_eq_true] at h
  obtain ⟨⟨⟨h1, h2⟩, h3⟩, h4⟩ := h
  simp only [regOk, Bool.and_eq_true]
  refine ⟨⟨⟨h1, h2⟩, ?_⟩, h4⟩
  have hd : ∀ i j, edgeB ops i j = true → j < i := by
    intro i j he
    obtain ⟨o, ho, e, hm, hb, rfl⟩ := edgeB_iff.1 he
    have hi : i < ops.size := (Array.getElem?_eq_some_iff.1 ho).1
    have h' := List.all_eq_true.1 h1 i (by simpa using hi)
    rw [ho] at h'
    simp only [Option.map_some, Option.getD_some, Array.all_eq_true_iff_forall_mem, Bool.or_eq_true, decide_eq_true_eq] at h'
    rcases h' e (by simpa using hm) with h'' | h''
    · simp [hb] at h''
    · exact h''
  simp only [List.all_eq_true, List.mem_range, Bool.or_eq_true, decide_eq_true_eq] at h3 ⊢
  intro i hi
  rcases h3 i hi with h' | h'
  · exact .inl h'
  · refine .inr fun j hj => ?_
    have hm : j ∈ reach ops i i [i] := by simpa using h' j hj
    rcases reach_sound hd i i [i] (fun l hl => .inl (by simpa using hl)) j hm with rfl | ⟨-, hn⟩
    · omega
    · simpa using needs_le hn (show i - j ≤ ops.size by omega)
end
end Go.Proofs.YtckcadhjpjjmjaaDoor
namespace Go.Proofs.YtckcadhjpjjmjaaDoor
open Go.RowKit
theorem mixed : Tryd.prog.follows .mixedOrders = true := by kernel_rfl
theorem needs_direct {ops : Array Oper} {i j : Nat} (h : ((ops[i]?).map fun o => o.after.toList.any fun e => Region.binds .any e && e.on == j) = some true) : (needs ops ops.size i).contains j = true := by
  cases ho : ops[i]? with
  | none => rw [ho] at h; cases h
  | some o =>
    rw [ho] at h
    simp only [Option.map_some, Option.some.injEq, List.any_eq_true, Bool.and_eq_true, beq_iff_eq] at h
    obtain ⟨e, he, h1, h2⟩ := h
    have hi : i < ops.size := (Array.getElem?_eq_some_iff.1 ho).1
    obtain ⟨f, hf⟩ : ∃ f, ops.size = f + 1 := ⟨ops.size - 1, by omega⟩
    rw [hf, needs, ho]
    simp only [List.contains_iff_mem, List.mem_flatMap, List.mem_filter]
    exact ⟨e, ⟨he, h1⟩, by simp [h2]⟩
end Go.Proofs.YtckcadhjpjjmjaaDoor
namespace Go.Proofs.YtckcadhjpjjmjaaDoor
open Go.RowKit
theorem txt_app2 (a b : List UInt8) : txt a ++ txt b = txt (a ++ b) := by
  apply ByteArray.ext
  rw [ByteArray.data_append]
  simp
theorem join_snoc (c : UInt8) (x : List UInt8) : ∀ l : List (List UInt8), l ≠ [] → Lib.join (l ++ [x]) [c] = Lib.join l [c] ++ c :: x
  | [], h => absurd rfl h
  | a :: r, _ => by
    rw [List.cons_append, Lib.join_cons, Lib.join_cons, Lib.joinTail, Lib.joinTail, List.map_append, List.flatten_append, ← List.append_assoc]
    simp
theorem join_take (c : UInt8) (l : List (List UInt8)) : ∀ k, (Lib.join (l.take k) [c]).length ≤ (Lib.join l [c]).length
  | 0 => Nat.zero_le _
  | k + 1 => by
    cases l with
    | nil => simp
    | cons a r =>
      rw [List.take_succ_cons, Lib.join_cons, Lib.join_cons, List.length_append, List.length_append]
      have : ∀ (r : List (List UInt8)) k, (Lib.joinTail [c] (r.take k)).length ≤ (Lib.joinTail [c] r).length := by
        intro r
        induction r with
        | nil => intro k; simp
        | cons b r ih =>
          intro k
          cases k with
          | zero => exact Nat.zero_le _
          | succ k =>
            have := ih k
            simp only [Lib.joinTail, List.take_succ_cons, List.map_cons, List.flatten_cons, List.length_append] at this ⊢
            omega
      have := this r k
      omega
set_option maxRecDepth 100000 in
set_option maxHeartbeats 1600000 in
theorem c_rfjoin (A : Option Addr) (n c : Nat) (l : List (List UInt8)) (ok : Nat → Prop) (w : World) (hR : kStr.Row ok w A n c (l.map txt)) (hj : (Lib.join l [44]).length ≤ 1000000) :
    Calls Tryd.prog 14 #[.slice A n c] w fun e w' => e = .returned (.string (txt (joinB geS l))) ∧ w' = w := by
  have hl : l.length = n := by rw [← hR.1, List.length_map]
  cases hb : riseB geS l with
  | false =>
    have HE : Hid (joinB geS l = []) := hide (by rw [joinB, hb]; rfl)
    have HB := hide hb
    have HR := hide hR
    clear hR hb
    go_enter Tryd.func14, Tryd.ntmps14
    go_wp2_with fail
    refine (c_rise l A n c ok w HR.out).mono ?_
    rintro e w1 ⟨rfl, rfl⟩
    rw [HB.out]
    go_wp2_with fail
    go_ret
    exact ⟨by rw [HE.out]; rfl, rfl⟩
  | true =>
    have hn32 : 1 ≤ n ∧ n ≤ 32 := by
      simp only [riseB, Bool.and_eq_true, decide_eq_true_eq] at hb
      omega
    obtain ⟨hn1, hn2⟩ := hn32
    have HE : Hid (joinB geS l = Lib.join l [44]) := hide (by rw [joinB, hb]; rfl)
    have HB := hide hb
    obtain ⟨x, hx⟩ : ∃ x, l[0]? = some x := ⟨_, List.getElem?_eq_getElem (by omega)⟩
    have hx2 : (l.map txt)[0]? = some (txt x) := by rw [List.getElem?_map, hx]; rfl
    obtain ⟨p, o, hix, hcx, -, -⟩ := row_str hR hx2
    have hix0 : ∀ wx : World, (Instr.indexAt 22 (.slice A n c) (.int .i64 0)).run Tryd.prog wx = .ok (.pointer (some ⟨p, o, none⟩)) wx := hix
    obtain ⟨B, hs1, hB⟩ := hR.from (P := Tryd.prog) Tryd.underlying22 (E := 9) str_info (k := 1) (by omega) .i64 1 rfl
    have H0 : Hid (Lib.join (l.take 1) [44] = x) := hide (by
      cases l with
      | nil => cases hx
      | cons a r =>
        have : a = x := by simpa using hx
        rw [this, List.take_succ_cons, List.take_zero, Lib.join_one])
    have HR := hide hR
    have HRB := hide hB
    have HL := hide hl
    have HJ := hide hj
    clear hR hb hB hl hj hx hx2 hix
    go_enter Tryd.func14, Tryd.ntmps14
    go_wp2_with fail
    refine (c_rise l A n c ok w HR.out).mono ?_
    rintro e w1 ⟨rfl, rfl⟩
    rw [HB.out]
    go_wp2_with fail
    go_loop [3, 15] (fun s i => ∃ (k : Nat) (q : List UInt8), k ≤ n - 1 ∧ i = .int .i64 (k : Int) ∧ s = .string (txt q) ∧ Hid (q = Lib.join (l.take (k + 1)) [44])) (fun _ i => n - 1 - (intOf i).toNat)
    case atStart => exact ⟨0, x, Nat.zero_le _, rfl, rfl, hide H0.out.symm⟩
    case round =>
      obtain ⟨k, q, hk, rfl, rfl, HT⟩ := hrel
      by_cases hlt : k < n - 1
      · obtain ⟨y, hy⟩ : ∃ y, l[k + 1]? = some y := ⟨_, List.getElem?_eq_getElem (by have := HL.out; omega)⟩
        have hy2 : ((l.map txt).drop 1)[k]? = some (txt y) := by rw [List.getElem?_drop, List.getElem?_map, Nat.add_comm, hy]; rfl
        obtain ⟨p2, o2, hiy, hcy, -, -⟩ := row_str HRB.out hy2
        have HQ : Hid (q ++ 44 :: y = Lib.join (l.take (k + 1 + 1)) [44]) := hide (by
          rw [List.take_add_one (i := k + 1), hy, HT.out]
          exact (join_snoc 44 y _ (by intro e; have h1 := congrArg List.length e; rw [List.length_take, List.length_nil] at h1; have h2 := HL.out; omega)).symm)
        have HQL : Hid ((q ++ 44 :: y).length ≤ 1000000) := hide (by rw [HQ.out]; exact Nat.le_trans (join_take 44 l _) HJ.out)
        have hs1y : ¬ 9223372036854775807 < 1 + y.length := by have := HQL.out; simp only [List.length_append, List.length_cons] at this; omega
        have hs2y : ¬ 9223372036854775807 < q.length + (1 + y.length) := by have := HQL.out; simp only [List.length_append, List.length_cons] at this; omega
        clear hy hy2
        go_wp2_with fail
        go_round
        case rel => exact ⟨k + 1, q ++ 44 :: y, by omega, by simp, by rw [show ({ data := #[44] } : ByteArray) = txt [44] from rfl, txt_app2, txt_app2]; rfl, HQ⟩
        case measure => simp [intOf]; omega
      · obtain rfl : k = n - 1 := by omega
        have HR9 : Hid (q = Lib.join l [44]) := hide (by rw [HT.out, List.take_of_length_le (by have := HL.out; omega)])
        go_wp2_with fail
        go_ret
        exact ⟨by rw [HE.out, ← HR9.out]; rfl, rfl⟩
set_option maxRecDepth 100000 in
set_option maxHeartbeats 1600000 in
theorem c_rfsame (A B : Option Addr) (n c m d : Nat) (xs ys : List ByteArray) (ok ok' : Nat → Prop) (w : World) (hR : kStr.Row ok w A n c xs) (hS : kStr.Row ok' w B m d ys) :
    Calls Tryd.prog 15 #[.slice A n c, .slice B m d] w fun e w' => e = .returned (.bool (decide (xs = ys))) ∧ Below w.heap.size w w' := by
  have hl := hR.1
  have hm := hS.1
  have hn63 : n ≤ 9223372036854775807 := Nat.le_trans hR.2.1 hR.2.2.1
  have hm63 : m ≤ 9223372036854775807 := Nat.le_trans hS.2.1 hS.2.2.1
  by_cases hnm : n = m
  · subst hnm
    have HL := hide hl
    have HM := hide hm
    have HR := hide hR
    have HS := hide hS
    clear hR hS hl hm
    go_enter Tryd.func15, Tryd.ntmps15
    go_wp2_with fail
    go_loopw [13] (fun i wr => ∃ k : Nat, k ≤ n ∧ i = .int .i64 (k : Int) ∧ Hid (xs.take k = ys.take k) ∧ Hid (Below w.heap.size w wr)) (fun i _ => n - (intOf i).toNat)
    case atStart => exact ⟨0, Nat.zero_le _, rfl, hide rfl, hide (Below.refl _ _)⟩
    case round =>
      obtain ⟨k, hk, rfl, HT, HB⟩ := hrel
      by_cases hlt : k < n
      · obtain ⟨x, hx⟩ : ∃ x, xs[k]? = some x := ⟨_, List.getElem?_eq_getElem (by have := HL.out; omega)⟩
        obtain ⟨y, hy⟩ : ∃ y, ys[k]? = some y := ⟨_, List.getElem?_eq_getElem (by have := HM.out; omega)⟩
        obtain ⟨p, o, hix, hcx, -, -⟩ := row_str (HR.out.below HB.out) hx
        obtain ⟨p2, o2, hiy, hcy, -, -⟩ := row_str (HS.out.below HB.out) hy
        have HIX := hide hix
        have HIY := hide hiy
        have HCX := hide hcx
        have HCY := hide hcy
        have HEQ : Hid ((!(x.toList == y.toList)) = decide (¬ x = y)) := hide (by
          rw [Bool.eq_iff_iff]
          simp only [Bool.not_eq_true', beq_eq_false_iff_ne, decide_eq_true_eq, ne_eq]
          rw [ByteArray.toList_eq, ByteArray.toList_eq]
          exact not_congr ⟨fun h => by rw [← txt_byt x, ← txt_byt y]; exact congrArg txt h, fun h => by rw [h]⟩)
        have HNX : Hid (¬ x = y → decide (xs = ys) = false) := hide (fun h => decide_eq_false (fun e => h (by rw [e, hy] at hx; exact (Option.some.inj hx).symm)))
        have HTX : Hid (x = y → xs.take (k + 1) = ys.take (k + 1)) := hide (fun h => by rw [List.take_add_one, List.take_add_one, HT.out, hx, hy, h])
        clear hx hy hix hiy hcx hcy
        go_wp2_with fail
        refine wp_region_ext mixed 9 (fun i v w' => match i with
          | 0 => v = .slice A n c
          | 1 => v = .int .i64 (k : Int)
          | 2 => v = .pointer (some ⟨p, o, none⟩)
          | 3 => v = .string x
          | 4 => v = .slice B n d
          | 5 => v = .int .i64 (k : Int)
          | 6 => v = .pointer (some ⟨p2, o2, none⟩)
          | 7 => v = .string y
          | _ => v = .bool !(x.toList == y.toList)
          ) (regOk_of (by kernel_rfl)) rfl ?_ ?_ ?_
        · intro i v w1 w2 h1 h2
          split at h2 <;> exact h2
        · refine ⟨fun a w2 hle hd hf hs K hK => ?_, fun a w2 hle hd hf hs K hK => ?_, fun a w2 hle hd hf hs K hK => ?_, fun a w2 hle hd hf hs K hK => ?_, fun a w2 hle hd hf hs K hK => ?_, fun a w2 hle hd hf hs K hK => ?_, fun a w2 hle hd hf hs K hK => ?_, fun a w2 hle hd hf hs K hK => ?_, fun a w2 hle hd hf hs K hK => ?_, trivial⟩
          all_goals clear hd
          · -- 16 := Op.move t0
            have e0 := hf 0 rfl; simp [Act.eval] at e0
            go_simp; exact hK _ _ (Ext.refl _) rfl
          · -- 17 := Op.move t5
            have e5 := hf 5 rfl; simp [Act.eval] at e5
            go_simp; exact hK _ _ (Ext.refl _) rfl
          · -- 18 := Op.indexAddr 22 t16 t17
            have e16 := hs 0 16 (needs_direct (by kernel_rfl)) rfl; have e17 := hs 1 17 (needs_direct (by kernel_rfl)) rfl; simp [Act.eval] at e16 e17
            have hix := HIX.out
            go_simp; exact hK _ _ (Ext.refl _) rfl
          · -- 19 := Op.load 9 t18
            have e18 := hs 2 18 (needs_direct (by kernel_rfl)) rfl; simp [Act.eval] at e18
            have hq := hle.cell HCX.out
            go_simp; exact hK _ _ (Ext.refl _) rfl
          · -- 20 := Op.move t1
            have e1 := hf 1 rfl; simp [Act.eval] at e1
            go_simp; exact hK _ _ (Ext.refl _) rfl
          · -- 21 := Op.move t5
            have e5 := hf 5 rfl; simp [Act.eval] at e5
            go_simp; exact hK _ _ (Ext.refl _) rfl
          · -- 22 := Op.indexAddr 22 t20 t21
            have e20 := hs 4 20 (needs_direct (by kernel_rfl)) rfl; have e21 := hs 5 21 (needs_direct (by kernel_rfl)) rfl; simp [Act.eval] at e20 e21
            have hiy := HIY.out
            go_simp; exact hK _ _ (Ext.refl _) rfl
          · -- 23 := Op.load 9 t22
            have e22 := hs 6 22 (needs_direct (by kernel_rfl)) rfl; simp [Act.eval] at e22
            have hq := hle.cell HCY.out
            go_simp; exact hK _ _ (Ext.refl _) rfl
          · -- 24 := Op.binOp BinOp.neq 9 t19 t23 9
            have e19 := hs 3 19 (needs_direct (by kernel_rfl)) rfl; have e23 := hs 7 23 (needs_direct (by kernel_rfl)) rfl; simp [Act.eval] at e19 e23
            go_simp; exact hK _ _ (Ext.refl _) rfl
        intro vs w8 hle hs
        have v8 := hs 8 (by omega) rfl
        simp only at v8
        clear hs
        rw [HEQ.out] at v8
        have HB8 := hide (HB.out.trans (hle.mono HB.out.size))
        clear hle
        simp only [putN, dstAt]
        by_cases hxy : x = y
        · have HT2 := hide (HTX.out hxy)
          rw [decide_eq_false (not_not_intro hxy)] at v8
          clear hxy
          go_simp
          go_wp2_with fail
          go_roundw
          case rel => exact ⟨k + 1, by omega, by simp, HT2, HB8⟩
          case measure => simp [intOf]; omega
        · have HE := hide (HNX.out hxy)
          rw [decide_eq_true hxy] at v8
          clear hxy
          go_simp
          go_wp2_with fail
          go_ret
          exact ⟨by rw [HE.out]; rfl, HB8.out⟩
      · obtain rfl : k = n := by omega
        have HE : Hid (decide (xs = ys) = true) := hide (decide_eq_true (by
          have := HT.out
          rwa [List.take_of_length_le (Nat.le_of_eq HL.out), List.take_of_length_le (Nat.le_of_eq HM.out)] at this))
        go_wp2_with fail
        go_ret
        exact ⟨by rw [HE.out]; rfl, HB.out⟩
  · have hnm' : ¬ (n : Int) = (m : Int) := by omega
    have HE : Hid (decide (xs = ys) = false) := hide (decide_eq_false (fun e => hnm (by rw [← hl, ← hm, e])))
    clear hR hS hl hm
    go_enter Tryd.func15, Tryd.ntmps15
    go_wp2_with fail
    go_ret
    exact ⟨by rw [HE.out]; rfl, Below.refl _ _⟩
end Go.Proofs.YtckcadhjpjjmjaaDoor
namespace Go.Proofs.YtckcadhjpjjmjaaDoor
open Go.RowKit Go.Sort
theorem holds_zero0 (w : World) (T : TypeId) (nd : Nat) (hs : nd ≤ 24) : Holds (fun (b : UInt8) => Value.int .u8 (b.toNat : Int)) (w.alloc (.cells Lib.zeros24 T)) w.heap.size 0 (Array.replicate nd (0 : UInt8)) := fun j hj => by
  have hj' : j < nd := by simpa using hj
  refine ⟨?_, World.frozen?_alloc_new _ _ _ _⟩
  rw [World.cell?_alloc_new, Lib.zeros24_at _ (by omega), getElem!_pos _ j hj]
  simp
set_option maxRecDepth 100000 in
set_option maxHeartbeats 1600000 in
theorem c_ifmtuint (u : Nat) (w : World) (hu64 : u < 18446744073709551616) (htab : Lib.TabIs Tryd.prog w "internal/strconv.uint64pow10" .u64 Lib.pow10Tab) :
    Calls Tryd.prog 92 #[.int .u64 (u : Int), .int .i64 10] w fun e w' => e = .returned (.string (txt (Lib.decDigits u))) ∧ Below w.heap.size w w' := by
  by_cases hs : u < 100
  · have hs' : (u : Int) < 100 := by omega
    go_enter Tryd.func92, Tryd.ntmps92
    go_wp2_with fail
    refine (Tryd.internal_strconv_small u hs w).mono ?_
    rintro e w1 ⟨rfl, rfl⟩
    go_wp2_with fail
    go_ret
    exact ⟨rfl, Below.refl _ _⟩
  · have hs' : ¬ (u : Int) < 100 := by omega
    have hu1 : 1 ≤ u := by omega
    have hnd20 : Lib.nDigits u ≤ 20 := by rw [← Lib.decDigits_length]; exact dec_len hu64
    have hal : Tryd.prog.arrayLen 112 = 24 := by kernel_rfl
    have hsl1 : ∀ W, (Instr.sliceAt 112 (.pointer (some ⟨w.heap.size, 0, none⟩)) none (some (.int .i64 (Lib.nDigits u : Int))) none).run Tryd.prog W = .ok (.slice (some ⟨w.heap.size, 0, none⟩) (Lib.nDigits u) 24) W := fun W => by
      rw [run_sliceAt_array_h W 112 ⟨w.heap.size, 0, none⟩ (by simp [Program.arrayLen, Program.elem, Tryd.underlying112]) .i64 (Lib.nDigits u : Int) (by omega) (by rw [hal]; omega)]
      go_simp
    have hH0 := holds_zero0 w 112 (Lib.nDigits u) (by omega)
    have hfmt := Tryd.internal_strconv_formatBase10 w.heap.size 0 24 u (Array.replicate (Lib.nDigits u) 0) (w.alloc (.cells Lib.zeros24 112)) hH0 (by rw [Array.size_replicate]; exact Lib.lt_pow_nDigits u) hu64 (by rw [Array.size_replicate]; omega)
    rw [Array.size_replicate] at hfmt
    have HH0 := hide hH0
    have HT := hide (Lib.tabIs_alloc htab (.cells Lib.zeros24 112))
    have HF := hide hfmt
    clear hH0 hal hfmt htab
    go_enter Tryd.func92, Tryd.ntmps92
    go_wp2_with fail
    refine (Tryd.internal_strconv_numDigits u hu1 hu64 _ HT.out).mono ?_
    rintro e w1 ⟨rfl, rfl⟩
    go_wp2_with fail
    refine HF.out.mono ?_
    rintro e w2 ⟨rfl, k, v', dk, rfl, hF⟩
    have hcv : (convert 71 9 (.slice (some ⟨w.heap.size, 0, none⟩) (Lib.nDigits u) 24)).run Tryd.prog ((putRow (fun (b : UInt8) => Value.int .u8 (b.toNat : Int)) (w.alloc (.cells Lib.zeros24 112)) w.heap.size 0 dk).drewN k) = .ok (.string (txt (Lib.decDigits u))) ((putRow (fun (b : UInt8) => Value.int .u8 (b.toNat : Int)) (w.alloc (.cells Lib.zeros24 112)) w.heap.size 0 dk).drewN k) := by
      have h := run_convert_bytes_back (P := Tryd.prog) ((putRow (fun (b : UInt8) => Value.int .u8 (b.toNat : Int)) (w.alloc (.cells Lib.zeros24 112)) w.heap.size 0 dk).drewN k) 71 9 5 ⟨w.heap.size, 0, none⟩ 24 (Lib.decDigits u) Tryd.underlying71 Tryd.underlying5 Tryd.underlying9 (fun j hj => by
        rw [Lib.row_is_numeral hF j hj, Lib.add_plain, World.cell?_drewN]
        exact cell?_putRow (fun (b : UInt8) => Value.int .u8 (b.toNat : Int)) _ w.heap.size 0 _ dk HH0.out (by rw [hF.size, Array.size_replicate]) j (by rw [hF.size]; rw [Lib.decDigits_length] at hj; exact hj))
      rw [Lib.decDigits_length] at h
      exact h
    have HB : Hid (Below w.heap.size w ((putRow (fun (b : UInt8) => Value.int .u8 (b.toNat : Int)) (w.alloc (.cells Lib.zeros24 112)) w.heap.size 0 dk).drewN k)) := hide (by
      have hfin : ∃ os, (putRow (fun (b : UInt8) => Value.int .u8 (b.toNat : Int)) (w.alloc (.cells Lib.zeros24 112)) w.heap.size 0 dk).drewN k = grow (w.drewN k) os := by
        rw [alloc_eq_grow]
        obtain ⟨os', _, e⟩ := putRow_grow_new (fun (b : UInt8) => Value.int .u8 (b.toNat : Int)) w #[.cells Lib.zeros24 112] w.heap.size 0 dk (Nat.le_refl _)
        exact ⟨os', by rw [e]; rfl⟩
      obtain ⟨os, e⟩ := hfin
      rw [e]
      exact below_grown_sl _ w k os (Nat.le_refl _))
    go_wp2_with fail
    go_ret
    exact ⟨rfl, HB.out⟩
theorem c_fmtuint (u : Nat) (w : World) (hu64 : u < 18446744073709551616) (htab : Lib.TabIs Tryd.prog w "internal/strconv.uint64pow10" .u64 Lib.pow10Tab) :
    Calls Tryd.prog 64 #[.int .u64 (u : Int), .int .i64 10] w fun e w' => e = .returned (.string (txt (Lib.decDigits u))) ∧ Below w.heap.size w w' := by
  have HC := hide (c_ifmtuint u w hu64 htab)
  clear htab
  go_enter Tryd.func64, Tryd.ntmps64
  go_wp2_with fail
  refine HC.out.mono ?_
  rintro e w1 ⟨rfl, b1⟩
  go_wp2_with fail
  go_ret
  exact ⟨rfl, b1⟩
end Go.Proofs.YtckcadhjpjjmjaaDoor
namespace Go.Proofs.YtckcadhjpjjmjaaDoor
open Go.RowKit
theorem one_row8 {w : World} {g : Nat} {b : UInt8} {E : TypeId} {fr : Nat × Nat} (hg : w.heap[g]? = some (.cells #[bv b] E fr)) : kU8.Row (fun _ => True) w (some ⟨g, 0, none⟩) 1 1 [b] := by
  refine ⟨rfl, Nat.le_refl _, by simp [maxLen], fun _ => ⟨g, 0, rfl, trivial, (Array.getElem?_eq_some_iff.1 hg).1, fun i y hy => ?_⟩⟩
  have hi : i = 0 := by have := (List.getElem?_eq_some_iff.1 hy).1; simp at this; omega
  subst hi
  obtain rfl : b = y := by simpa using hy
  refine ⟨[bv b], ⟨rfl, trivial⟩, fun j u hu => ?_⟩
  rw [cell_of_row _ _ _ _ _ _ hg, ← Array.getElem?_toList]
  simpa using hu
set_option maxRecDepth 100000 in
set_option maxHeartbeats 1600000 in
theorem c_digits : ∀ (u : Nat) (w : World), u < 18446744073709551616 → Calls Tryd.prog 40 #[.int .u64 (u : Int)] w fun e w' => e = .returned (.string (txt (Lib.decDigits u))) ∧ Below w.heap.size w w' := by
  intro u
  induction u using Nat.strongRecOn with
  | _ u ih =>
    intro w hu
    by_cases h : u < 10
    · have h' : (u : Int) < 10 := by omega
      have HE : Hid (Lib.decDigits u = [UInt8.ofNat (48 + u)]) := hide (dec_lt h)
      obtain ⟨y, hy⟩ : ∃ y, y = UInt8.ofNat (48 + u) := ⟨_, rfl⟩
      have hyn : y.toNat = 48 + u := by rw [hy, digit_of h]
      have e8 : Value.int .u8 (48 + (u : Int)) = bv y := by show _ = Value.int .u8 (y.toNat : Int); rw [hyn]; rfl
      have hq := row_string (P := Tryd.prog) Tryd.underlying71 Tryd.underlying5 Tryd.underlying9 (one_row8 (E := 5) (heap_alloc_new w (.cells #[bv y] 5)))
      rw [← e8] at hq
      rw [← hy] at HE
      clear hy hyn
      clear ih e8
      go_enter Tryd.func40, Tryd.ntmps40
      go_wp2_with fail
      go_ret
      exact ⟨by rw [HE.out]; rfl, (Below.refl _ _).alloc (Nat.le_refl _) _⟩
    · have h' : ¬ (u : Int) < 10 := by omega
      have HE : Hid (Lib.decDigits u = Lib.decDigits (u / 10) ++ [UInt8.ofNat (48 + u % 10)]) := hide (dec_ge h)
      have IH := hide ih
      clear ih
      go_enter Tryd.func40, Tryd.ntmps40
      have e10 : Hid ((u : Int) / 10 = ((u / 10 : Nat) : Int)) := hide (by omega)
      have e11 : Hid ((u : Int) % 10 = ((u % 10 : Nat) : Int)) := hide (by omega)
      go_wp2_with fail
      rw [e10.out]
      refine (IH.out (u / 10) (by omega) w (by omega)).mono ?_
      rintro e w1 ⟨rfl, b1⟩
      have hp := dec_len (u := u / 10) (by omega)
      have hq := dec_len (u := u % 10) (by omega)
      have HD : Hid (Lib.decDigits (u % 10) = [UInt8.ofNat (48 + u % 10)]) := hide (dec_lt (by omega))
      rw [← HD.out] at HE
      obtain ⟨p, hp0⟩ : ∃ p, Lib.decDigits (u / 10) = p := ⟨_, rfl⟩
      rw [hp0] at hp HE ⊢
      have HB1 := hide b1
      clear b1 hp0
      go_wp2_with fail
      rw [e11.out]
      refine (IH.out (u % 10) (by omega) w1 (by omega)).mono ?_
      rintro e w2 ⟨rfl, b2⟩
      obtain ⟨q, hq0⟩ : ∃ q, Lib.decDigits (u % 10) = q := ⟨_, rfl⟩
      rw [hq0] at hq HE ⊢
      have HB2 := hide (HB1.out.trans (b2.mono HB1.out.size))
      have hnz : ¬ 9223372036854775807 < p.length + q.length := by omega
      clear b2 hq0 HD IH e10 e11
      go_wp2_with fail
      go_ret
      exact ⟨by rw [HE.out, ← txt_app2]; rfl, HB2.out⟩
end Go.Proofs.YtckcadhjpjjmjaaDoor
namespace Go.Proofs.YtckcadhjpjjmjaaDoor
open Go.RowKit
/-- What the reading of numbers wants of the world: the library's table, its two errors. -/
def NumAt (w : World) : Prop :=
  Lib.TabIs Tryd.prog w "internal/strconv.uint64pow10" .u64 Lib.pow10Tab ∧
  (∃ ev, w.cell? ⟨2, 0, none⟩ = some ev ∧ (ev = .nilIface ∨ ∃ te pe, ev = .iface te pe)) ∧
  (∃ ev, w.cell? ⟨3, 0, none⟩ = some ev ∧ (ev = .nilIface ∨ ∃ te pe, ev = .iface te pe))
theorem tab_below {w w' : World} {name : String} {k : IntKind} {zs : List Int} (h : Lib.TabIs Tryd.prog w name k zs) (hb : Below w.heap.size w w') : Lib.TabIs Tryd.prog w' name k zs := by
  unfold Lib.TabIs World.var? at *
  cases hg : Tryd.prog.globalNamed name with
  | none => simp [hg] at h
  | some g =>
    simp only [hg, Option.bind_some] at h ⊢
    have hlt : g < w.heap.size := by
      rcases Nat.lt_or_ge g w.heap.size with h' | h'
      · exact h'
      · rw [Array.getElem?_eq_none h'] at h; simp at h
    rw [hb.block g hlt]
    exact h
theorem NumAt.below {w w' : World} (h : NumAt w) (hb : Below w.heap.size w w') : NumAt w' := by
  obtain ⟨h1, ⟨ev, h2, h3⟩, ⟨ew, h4, h5⟩⟩ := h
  exact ⟨tab_below h1 hb, ⟨ev, (hb.cell (p := ⟨2, 0, none⟩) (World.block_lt_of_cell? _ _ h2)).trans h2, h3⟩, ⟨ew, (hb.cell (p := ⟨3, 0, none⟩) (World.block_lt_of_cell? _ _ h4)).trans h4, h5⟩⟩
theorem wrap_step (M c : Nat) (hM : M = 18446744073709551616) (hc : c = 18446744073709551568) (r : Nat) (b : UInt8) : IntKind.u64.wrap (IntKind.u64.wrap (IntKind.u64.wrap ((r : Int) * 10) + (b.toNat : Int)) - 48) = ((stepG M c r b : Nat) : Int) := by
  rw [stepG_eq, IntKind.wrap_u64, IntKind.wrap_u64, IntKind.wrap_u64]
  subst hM hc
  omega
def numV (o : Option Nat) : Value := .tuple #[.int .u64 ((o.getD 0 : Nat) : Int), .bool o.isSome]
set_option maxRecDepth 100000 in
set_option maxHeartbeats 1600000 in
theorem c_lnumber (x : List UInt8) (w : World) (hx : x.length ≤ 1000000) (hN : NumAt w) :
    Calls Tryd.prog 35 #[.string (txt x)] w fun e w' => e = .returned (numV (numB x)) ∧ Below w.heap.size w w' := by
  have hsz : (txt x).size ≤ 1000000 := by rw [txt_size]; exact hx
  obtain ⟨r, hr⟩ : ∃ r, Lib.parseUintB 64 x = r := ⟨_, rfl⟩
  have hr2 : Lib.parseUintB 64 (txt x).data.toList = r := by rw [← hr]
  rcases r with u | _ | _
  · have HB : Hid (numB x = if Lib.decDigits u = x then some u else none) := hide (by rw [numB, hr])
    have hu : u < 18446744073709551616 := by
      unfold Lib.parseUintB at hr
      split at hr
      · cases hr
      · have := parse_lt (2 ^ 64 - 1) x 0 u (by decide) hr
        omega
    have hP := Tryd.strconv_ParseUint_10_at64_ok (txt x) (by omega) u hr2 w
    have HN := hide hN
    have HP := hide hP
    clear hr hr2 hN hP
    go_enter Tryd.func35, Tryd.ntmps35
    go_wp2_with fail
    refine HP.out.mono ?_
    rintro e w1 ⟨rfl, hw1⟩
    have b1 : Below w.heap.size w w1 := by
      rcases hw1 with rfl | rfl
      · exact Below.refl _ _
      · exact bytesWorld_below _ _ _
    have HB1 := hide b1
    have HN1 := hide (HN.out.below b1)
    clear b1 hw1 HP
    go_wp2_with fail
    refine (c_fmtuint u w1 hu HN1.out.1).mono ?_
    rintro e w2 ⟨rfl, b2⟩
    have HB2 := hide (HB1.out.trans (b2.mono HB1.out.size))
    obtain ⟨D, hD⟩ : ∃ D, Lib.decDigits u = D := ⟨_, rfl⟩
    rw [hD] at HB ⊢
    clear b2 hD
    by_cases hDx : D = x
    · have HE : Hid (numB x = some u) := hide (by rw [HB.out, if_pos hDx])
      subst hDx
      go_wp2_with fail
      exact bodyPost_ret (v := .tuple #[.int .u64 (u : Int), .bool true]) (by simp [results, Tryd.results35, go_sem]) rfl ⟨by rw [HE.out]; rfl, HB2.out⟩
    · have HE : Hid (numB x = none) := hide (by rw [HB.out, if_neg hDx])
      have hbq : (D == x) = false := beq_eq_false_iff_ne.2 hDx
      go_wp2_with fail
      exact bodyPost_ret (v := .tuple #[.int .u64 0, .bool false]) (by simp [results, Tryd.results35, go_sem]) rfl ⟨by rw [HE.out]; rfl, HB2.out⟩
  · have HE : Hid (numB x = none) := hide (by rw [numB, hr])
    obtain ⟨ev, hv, hev⟩ := hN.2.1
    have HP : Hid (Calls Tryd.prog 63 #[.string (txt x), .int .i64 10, .int .i64 64] w fun e w' => ∃ N, e = .returned (.tuple #[.int .u64 0, .iface 109 (.pointer (some ⟨N, 0, none⟩))]) ∧ Below w.heap.size w w') := hide ((Any.strconv_ParseUint_10_at64_syntax Tryd.laysPu14 (txt x) (by omega) hr2 ev w hv hev).mono fun e w' ⟨N, h1, _, _, h4⟩ => ⟨N, h1, h4⟩)
    clear hr hr2 hN hv hev
    go_enter Tryd.func35, Tryd.ntmps35
    go_wp2_with fail
    refine HP.out.mono ?_
    rintro e w1 ⟨N, rfl, b1⟩
    have HB1 := hide b1
    clear b1 HP
    go_wp2_with fail
    exact bodyPost_ret (v := .tuple #[.int .u64 0, .bool false]) (by simp [results, Tryd.results35, go_sem]) rfl ⟨by rw [HE.out]; rfl, HB1.out⟩
  · have HE : Hid (numB x = none) := hide (by rw [numB, hr])
    obtain ⟨ev, hv, hev⟩ := hN.2.2
    have HP := hide (Tryd.strconv_ParseUint_10_at64_range (txt x) (by omega) hr2 ev w hv hev)
    clear hr hr2 hN hv hev
    go_enter Tryd.func35, Tryd.ntmps35
    go_wp2_with fail
    refine HP.out.mono ?_
    rintro e w1 ⟨N, rfl, -, -, b1⟩
    have HB1 := hide b1
    clear b1 HP
    go_wp2_with fail
    exact bodyPost_ret (v := .tuple #[.int .u64 0, .bool false]) (by simp [results, Tryd.results35, go_sem]) rfl ⟨by rw [HE.out]; rfl, HB1.out⟩
set_option maxRecDepth 100000 in
set_option maxHeartbeats 1600000 in
theorem c_rnumber (x : List UInt8) (w : World) (hx : x.length ≤ 1000000) :
    Calls Tryd.prog 36 #[.string (txt x)] w fun e w' => e = .returned (numV (numB x)) ∧ Below w.heap.size w w' := by
  obtain ⟨M, hM⟩ : ∃ M, M = 18446744073709551616 := ⟨_, rfl⟩
  obtain ⟨c, hc⟩ : ∃ c, c = 18446744073709551568 := ⟨_, rfl⟩
  have hNR := num_ref M c hM hc x
  have hsz : (txt x).size = x.length := txt_size x
  obtain ⟨n, hn⟩ : ∃ n, x.length = n := ⟨_, rfl⟩
  rw [hn] at hsz hx hNR
  have HL := hide hn
  have HM := hide hM
  have HC := hide hc
  clear hn hM hc
  by_cases h20 : 20 < n
  · have h20' : (20 : Int) < n := by omega
    have HE : Hid (numB x = none) := hide (by rw [hNR, if_pos h20])
    clear hNR
    go_enter Tryd.func36, Tryd.ntmps36
    go_wp2_with fail
    exact bodyPost_ret (v := .tuple #[.int .u64 0, .bool false]) (by simp [results, Tryd.results36, go_sem]) rfl ⟨by rw [HE.out]; rfl, Below.refl _ _⟩
  · have h20' : ¬ (20 : Int) < n := by omega
    have HNR := hide hNR
    clear hNR
    go_enter Tryd.func36, Tryd.ntmps36
    go_wp2_with fail
    go_loop [4, 5] (fun q i => ∃ (k r : Nat), k ≤ n ∧ i = .int .i64 (k : Int) ∧ q = .int .u64 (r : Int) ∧ r < 18446744073709551616 ∧ Hid (r = foldG M c 0 (x.take k)) ∧ Hid (oddD (x.take k) = false)) (fun _ i => n - (intOf i).toNat)
    case atStart => exact ⟨0, 0, Nat.zero_le _, rfl, rfl, by decide, hide rfl, hide rfl⟩
    case round =>
      obtain ⟨k, r, hk, rfl, rfl, hr, HF, HT⟩ := hrel
      by_cases hlt : k < n
      · obtain ⟨y, hy⟩ : ∃ y, x[k]? = some y := ⟨_, List.getElem?_eq_getElem (by have := HL.out; omega)⟩
        have hix := txt_byte (P := Tryd.prog) Tryd.underlying9 hy .i64
        have hT2 : oddD (x.take (k + 1)) = (decide (y.toNat < 48) || decide (57 < y.toNat)) := by
          have h := HT.out
          unfold oddD at h ⊢
          rw [List.take_add_one, hy, List.any_append, h, Bool.false_or]
          simp
        have HF2 : Hid (stepG M c r y = foldG M c 0 (x.take (k + 1))) := hide (by
          rw [List.take_add_one, hy, HF.out]
          exact (foldG_snoc M c 0 _ y).symm)
        have hmem : y ∈ x := List.mem_of_getElem? hy
        clear hy
        by_cases ha : y.toNat < 48
        · have HE : Hid (numB x = none) := hide (by rw [HNR.out, if_neg h20, if_pos (show oddD x = true from List.any_eq_true.2 ⟨y, hmem, by simp; omega⟩)])
          have ha' : (y.toNat : Int) < 48 := by omega
          clear hT2
          go_wp2_with fail
          exact bodyPost_ret (v := .tuple #[.int .u64 0, .bool false]) (by simp [results, Tryd.results36, go_sem]) rfl ⟨by rw [HE.out]; rfl, Below.refl _ _⟩
        · have ha' : ¬ (y.toNat : Int) < 48 := by omega
          by_cases hz : 57 < y.toNat
          · have HE : Hid (numB x = none) := hide (by rw [HNR.out, if_neg h20, if_pos (show oddD x = true from List.any_eq_true.2 ⟨y, hmem, by simp; omega⟩)])
            have hz' : (57 : Int) < (y.toNat : Int) := by omega
            clear hT2
            go_wp2_with fail
            exact bodyPost_ret (v := .tuple #[.int .u64 0, .bool false]) (by simp [results, Tryd.results36, go_sem]) rfl ⟨by rw [HE.out]; rfl, Below.refl _ _⟩
          · have hz' : ¬ (57 : Int) < (y.toNat : Int) := by omega
            have HT2 : Hid (oddD (x.take (k + 1)) = false) := hide (by rw [hT2, decide_eq_false ha, decide_eq_false hz]; rfl)
            clear hT2
            go_wp2_with fail
            go_round
            case rel => exact ⟨k + 1, stepG M c r y, by omega, by simp, congrArg (Value.int .u64) (wrap_step M c HM.out HC.out r y), by have := stepG_lt M c r y (by have := HM.out; omega); have := HM.out; omega, HF2, HT2⟩
            case measure => simp [intOf]; omega
      · obtain rfl : k = n := by omega
        have HO : Hid (numB x = if Lib.decDigits r = x then some r else none) := hide (by
          have h1 := HF.out
          have h2 := HT.out
          rw [List.take_of_length_le (Nat.le_of_eq HL.out)] at h1 h2
          rw [HNR.out, if_neg h20, h2, h1]
          rfl)
        go_wp2_with fail
        refine (c_digits r w hr).mono ?_
        rintro e w2 ⟨rfl, b2⟩
        have HB2 := hide b2
        obtain ⟨D, hD⟩ : ∃ D, Lib.decDigits r = D := ⟨_, rfl⟩
        rw [hD] at HO ⊢
        clear b2 hD
        by_cases hDx : D = x
        · have HE : Hid (numB x = some r) := hide (by rw [HO.out, if_pos hDx])
          subst hDx
          go_wp2_with fail
          exact bodyPost_ret (v := .tuple #[.int .u64 (r : Int), .bool true]) (by simp [results, Tryd.results36, go_sem]) rfl ⟨by rw [HE.out]; rfl, HB2.out⟩
        · have HE : Hid (numB x = none) := hide (by rw [HO.out, if_neg hDx])
          have hbq : (D == x) = false := beq_eq_false_iff_ne.2 hDx
          go_wp2_with fail
          exact bodyPost_ret (v := .tuple #[.int .u64 0, .bool false]) (by simp [results, Tryd.results36, go_sem]) rfl ⟨by rw [HE.out]; rfl, HB2.out⟩
end Go.Proofs.YtckcadhjpjjmjaaDoor
namespace Go.Proofs.YtckcadhjpjjmjaaDoor
open Go.RowKit Go.Sort
abbrev PowAt (w : World) : Prop := Lib.TabIs Tryd.prog w "internal/strconv.uint64pow10" .u64 Lib.pow10Tab
theorem below_grow (w : World) (k : Nat) (os : Array Obj) : Below w.heap.size w (grow (w.drewN k) os) := below_grown_sl _ w k os (Nat.le_refl _)
theorem below_drewN (w : World) (k : Nat) : Below w.heap.size w (w.drewN k) := ⟨rfl, rfl, rfl, Nat.le_refl _, fun _ _ => rfl⟩
set_option maxRecDepth 100000 in
set_option maxHeartbeats 1600000 in
theorem c_parts4609434218613702656 (w : World) (hT : TzAt w) : Calls Tryd.prog 41 #[.float .f64 4609434218613702656] w fun e w' => e = .returned (.tuple #[.bool false, .int .u64 3, .int .i64 (-1)]) ∧ Below w.heap.size w w' := by
  have HT := hide hT
  clear hT
  have HC : Hid (Lib.ctz 64 6755399441055744 = 51) := hide (by decide +kernel)
  have q25 : (FloatKind.f64.format.order 4609434218613702656 0 == some .eq) = false := by decide +kernel
  have hcv : ∀ w : World, (convert 31 30 (.float .f64 4843621399236968448)).run Tryd.prog w = .ok (.int .u64 6755399441055744) w := fun w => by kernel_rfl
  go_enter Tryd.func41, Tryd.ntmps41
  go_wp2_with fail
  refine (c_isnan 4609434218613702656 _).mono ?_
  rintro e w1 ⟨rfl, rfl⟩
  rw [show nanD 4609434218613702656 = false by decide +kernel]
  go_wp2_with fail
  refine (c_signbit 4609434218613702656 (by decide) _).mono ?_
  rintro e w1 ⟨rfl, rfl⟩
  go_wp2_with fail
  refine (c_inf4609434218613702656 _).mono ?_
  rintro e w1 ⟨rfl, rfl⟩
  go_wp2_with fail
  refine (c_abs4609434218613702656 _).mono ?_
  rintro e w1 ⟨rfl, rfl⟩
  go_wp2_with fail
  refine (c_Frexp4609434218613702656 _).mono ?_
  rintro e w1 ⟨rfl, rfl⟩
  go_wp2_with fail
  refine (c_Ldexp4604930618986332160 _).mono ?_
  rintro e w1 ⟨rfl, rfl⟩
  go_wp2_with fail
  refine (c_tz 6755399441055744 (by decide) (by decide) _ HT.out).mono ?_
  rintro e w1 ⟨rfl, rfl⟩
  rw [HC.out]
  go_wp2_with fail
  go_quiet (fail)
  go_wp2_with fail
  exact bodyPost_ret (v := .tuple #[.bool false, .int .u64 3, .int .i64 (-1)]) (by simp [results, Tryd.results41, go_sem]) rfl ⟨rfl, below_drewN _ _⟩
set_option maxRecDepth 100000 in
set_option maxHeartbeats 1600000 in
theorem c_parts4620693217682128896 (w : World) (hT : TzAt w) : Calls Tryd.prog 41 #[.float .f64 4620693217682128896] w fun e w' => e = .returned (.tuple #[.bool false, .int .u64 1, .int .i64 3]) ∧ Below w.heap.size w w' := by
  have HT := hide hT
  clear hT
  have HC : Hid (Lib.ctz 64 4503599627370496 = 52) := hide (by decide +kernel)
  have q26 : (FloatKind.f64.format.order 4620693217682128896 0 == some .eq) = false := by decide +kernel
  have hcv : ∀ w : World, (convert 31 30 (.float .f64 4841369599423283200)).run Tryd.prog w = .ok (.int .u64 4503599627370496) w := fun w => by kernel_rfl
  go_enter Tryd.func41, Tryd.ntmps41
  go_wp2_with fail
  refine (c_isnan 4620693217682128896 _).mono ?_
  rintro e w1 ⟨rfl, rfl⟩
  rw [show nanD 4620693217682128896 = false by decide +kernel]
  go_wp2_with fail
  refine (c_signbit 4620693217682128896 (by decide) _).mono ?_
  rintro e w1 ⟨rfl, rfl⟩
  go_wp2_with fail
  refine (c_inf4620693217682128896 _).mono ?_
  rintro e w1 ⟨rfl, rfl⟩
  go_wp2_with fail
  refine (c_abs4620693217682128896 _).mono ?_
  rintro e w1 ⟨rfl, rfl⟩
  go_wp2_with fail
  refine (c_Frexp4620693217682128896 _).mono ?_
  rintro e w1 ⟨rfl, rfl⟩
  go_wp2_with fail
  refine (c_Ldexp4602678819172646912 _).mono ?_
  rintro e w1 ⟨rfl, rfl⟩
  go_wp2_with fail
  refine (c_tz 4503599627370496 (by decide) (by decide) _ HT.out).mono ?_
  rintro e w1 ⟨rfl, rfl⟩
  rw [HC.out]
  go_wp2_with fail
  go_quiet (fail)
  go_wp2_with fail
  exact bodyPost_ret (v := .tuple #[.bool false, .int .u64 1, .int .i64 3]) (by simp [results, Tryd.results41, go_sem]) rfl ⟨rfl, below_drewN _ _⟩
set_option maxRecDepth 100000 in
set_option maxHeartbeats 1600000 in
theorem c_text4609434218613702656 (w : World) (hT : TzAt w) (hp : PowAt w) : Calls Tryd.prog 45 #[.float .f64 4609434218613702656] w fun e w' => e = .returned (.string ⟨#[51, 112, 45, 49]⟩) ∧ Below w.heap.size w w' := by
  have HT := hide hT
  have HP := hide hp
  clear hT hp
  have q27 : (FloatKind.f64.format.order 4609434218613702656 0 == some .eq) = false := by decide +kernel
  have HD : Hid (txt (Lib.decDigits 3) = (⟨#[51]⟩ : ByteArray)) := hide (by decide +kernel)
  have HI : Hid ((⟨(Lib.itoa (-1)).toArray⟩ : ByteArray) = ⟨#[45, 49]⟩) := hide (by decide +kernel)
  go_enter Tryd.func45, Tryd.ntmps45
  go_wp2_with fail
  refine (c_isnan 4609434218613702656 _).mono ?_
  rintro e w1 ⟨rfl, rfl⟩
  rw [show nanD 4609434218613702656 = false by decide +kernel]
  go_wp2_with fail
  refine (c_parts4609434218613702656 _ HT.out).mono ?_
  rintro e w1 ⟨rfl, b1⟩
  have B1 := hide b1
  clear b1
  go_wp2_with fail
  refine (c_inf4609434218613702656 _).mono ?_
  rintro e w2 ⟨rfl, rfl⟩
  go_wp2_with fail
  refine (c_fmtuint 3 _ (by decide) (tab_below HP.out B1.out)).mono ?_
  rintro e w3 ⟨rfl, b3⟩
  have B3 := hide (B1.out.trans (b3.mono B1.out.size))
  clear b3
  rw [HD.out]
  go_wp2_with fail
  refine (Tryd.strconv_Itoa (-1) (by decide) (by decide) _ (tab_below HP.out B3.out)).mono ?_
  rintro e w4 ⟨rfl, k, os, rfl⟩
  have B4 := hide (B3.out.trans ((below_grow w3 k os).mono B3.out.size))
  rw [HI.out]
  go_wp2_with fail
  go_ret
  exact ⟨rfl, B4.out⟩
set_option maxRecDepth 100000 in
set_option maxHeartbeats 1600000 in
theorem c_text4620693217682128896 (w : World) (hT : TzAt w) (hp : PowAt w) : Calls Tryd.prog 45 #[.float .f64 4620693217682128896] w fun e w' => e = .returned (.string ⟨#[49, 112, 51]⟩) ∧ Below w.heap.size w w' := by
  have HT := hide hT
  have HP := hide hp
  clear hT hp
  have q28 : (FloatKind.f64.format.order 4620693217682128896 0 == some .eq) = false := by decide +kernel
  have HD : Hid (txt (Lib.decDigits 1) = (⟨#[49]⟩ : ByteArray)) := hide (by decide +kernel)
  have HI : Hid ((⟨(Lib.itoa 3).toArray⟩ : ByteArray) = ⟨#[51]⟩) := hide (by decide +kernel)
  go_enter Tryd.func45, Tryd.ntmps45
  go_wp2_with fail
  refine (c_isnan 4620693217682128896 _).mono ?_
  rintro e w1 ⟨rfl, rfl⟩
  rw [show nanD 4620693217682128896 = false by decide +kernel]
  go_wp2_with fail
  refine (c_parts4620693217682128896 _ HT.out).mono ?_
  rintro e w1 ⟨rfl, b1⟩
  have B1 := hide b1
  clear b1
  go_wp2_with fail
  refine (c_inf4620693217682128896 _).mono ?_
  rintro e w2 ⟨rfl, rfl⟩
  go_wp2_with fail
  refine (c_fmtuint 1 _ (by decide) (tab_below HP.out B1.out)).mono ?_
  rintro e w3 ⟨rfl, b3⟩
  have B3 := hide (B1.out.trans (b3.mono B1.out.size))
  clear b3
  rw [HD.out]
  go_wp2_with fail
  refine (Tryd.strconv_Itoa 3 (by decide) (by decide) _ (tab_below HP.out B3.out)).mono ?_
  rintro e w4 ⟨rfl, k, os, rfl⟩
  have B4 := hide (B3.out.trans ((below_grow w3 k os).mono B3.out.size))
  rw [HI.out]
  go_wp2_with fail
  go_ret
  exact ⟨rfl, B4.out⟩
set_option maxRecDepth 100000 in
set_option maxHeartbeats 1600000 in
theorem c_costalive (w : World) (hT : TzAt w) (hp : PowAt w) : Calls Tryd.prog 16 #[] w fun e w' => e = .returned (.bool true) ∧ Below w.heap.size w w' := by
  have HT := hide hT
  have HP := hide hp
  clear hT hp
  go_enter Tryd.func16, Tryd.ntmps16
  go_wp2_with fail
  refine (c_text4609434218613702656 _ HT.out HP.out).mono ?_
  rintro e w1 ⟨rfl, b1⟩
  have B1 := hide b1
  clear b1
  go_wp2_with fail
  refine (c_text4620693217682128896 _ (tab_below HT.out B1.out) (tab_below HP.out B1.out)).mono ?_
  rintro e w2 ⟨rfl, b2⟩
  have B2 := hide (B1.out.trans (b2.mono B1.out.size))
  clear b2
  go_wp2_with fail
  go_ret
  exact ⟨rfl, B2.out⟩
set_option maxRecDepth 100000 in
set_option maxHeartbeats 800000 in
theorem c_mnan (w : World) : Calls Tryd.prog 20 #[] w fun e w' => e = .returned (.float .f64 9221120237041090561) ∧ w' = w := by
  have ff561 : ∀ w : World, (callFunc 17 #[.int .u64 9221120237041090561]).run Tryd.prog w = .ok (.value (.float .f64 9221120237041090561)) w := run_ffrom 9221120237041090561
  go_enter Tryd.func20, Tryd.ntmps20
  go_wp2_with fail
  go_ret
  exact ⟨rfl, rfl⟩
set_option maxRecDepth 100000 in
set_option maxHeartbeats 800000 in
theorem c_minf (w : World) : Calls Tryd.prog 21 #[.int .i64 1] w fun e w' => e = .returned (.float .f64 9218868437227405312) ∧ w' = w := by
  have ff312 : ∀ w : World, (callFunc 17 #[.int .u64 9218868437227405312]).run Tryd.prog w = .ok (.value (.float .f64 9218868437227405312)) w := run_ffrom 9218868437227405312
  go_enter Tryd.func21, Tryd.ntmps21
  go_wp2_with fail
  go_ret
  exact ⟨rfl, rfl⟩
set_option maxRecDepth 100000 in
set_option maxHeartbeats 800000 in
theorem c_mcopy (w : World) : Calls Tryd.prog 22 #[.float .f64 0, .float .f64 13830554455654793216] w fun e w' => e = .returned (.float .f64 9223372036854775808) ∧ w' = w := by
  have fb0 : ∀ w : World, (callFunc 53 #[.float .f64 0]).run Tryd.prog w = .ok (.value (.int .u64 0)) w := run_fbits 0
  have fb216 : ∀ w : World, (callFunc 53 #[.float .f64 13830554455654793216]).run Tryd.prog w = .ok (.value (.int .u64 13830554455654793216)) w := run_fbits 13830554455654793216
  have ff808 : ∀ w : World, (callFunc 17 #[.int .u64 9223372036854775808]).run Tryd.prog w = .ok (.value (.float .f64 9223372036854775808)) w := run_ffrom 9223372036854775808
  have q29 : bits .andNot .u64 0 9223372036854775808 = 0 := by decide +kernel
  have q30 : bits .and .u64 13830554455654793216 9223372036854775808 = 9223372036854775808 := by decide +kernel
  have q31 : bits .or .u64 0 9223372036854775808 = 9223372036854775808 := by decide +kernel
  go_enter Tryd.func22, Tryd.ntmps22
  go_wp2_with fail
  go_ret
  exact ⟨rfl, rfl⟩
end Go.Proofs.YtckcadhjpjjmjaaDoor
namespace Go.Proofs.YtckcadhjpjjmjaaDoor
open Go.RowKit Go.Sort
theorem inf_rung : Ieee.double.infRung = 9218868437227405312 := by decide +kernel
theorem rk_inf : rkD 9218868437227405312 = 9218868437227405312 := by decide +kernel
theorem rk_le_inf {a : Nat} (h : nanD a = false) : rkD a ≤ rkD 9218868437227405312 := by
  rw [rk_inf, rkD]
  have h1 : rungW Ieee.double a ≤ 9218868437227405312 := by
    have := of_decide_eq_false h
    rw [inf_rung] at this
    omega
  unfold sgn
  split <;> omega
theorem lq_self (a : Nat) : lqD a a = !nanD a := by
  rw [lq_d, decide_eq_true (Int.le_refl _)]
  cases nanD a <;> rfl
theorem eq_self (a : Nat) : (ordD a a == some .eq) = !nanD a := by
  rw [← self_d, bne, Bool.not_not]
theorem lq_inf (a : Nat) : lqD a 9218868437227405312 = !nanD a := by
  rw [lq_d, show nanD 9218868437227405312 = false by decide +kernel]
  cases h : nanD a with
  | true => rfl
  | false => rw [decide_eq_true (rk_le_inf h)]; rfl
theorem lq_nan (b : Nat) : lqD 9221120237041090561 b = false := by
  rw [lq_d, show nanD 9221120237041090561 = true by decide +kernel]; rfl
theorem lq_nan' (a : Nat) : lqD a 9221120237041090561 = false := by
  rw [lq_d, show nanD 9221120237041090561 = true by decide +kernel]
  cases nanD a <;> rfl
theorem lq_zero : lqD 9223372036854775808 0 = true := by decide +kernel
theorem lq_zero' : lqD 0 9223372036854775808 = true := by decide +kernel
set_option maxRecDepth 100000 in
set_option maxHeartbeats 1600000 in
theorem c_costbounds (a b : Nat) (w : World) (ha : a < 18446744073709551616) (hb : b < 18446744073709551616) (hT : TzAt w) (hp : PowAt w) :
    Calls Tryd.prog 4 #[.int .u64 (a : Int), .int .u64 (b : Int)] w fun e w' => e = .returned (.bool true) ∧ Below w.heap.size w w' := by
  have HT := hide hT
  have HP := hide hp
  clear hT hp
  have hfa := run_ffrom a
  have hfb := run_ffrom b
  have HA := hide ha
  have HB := hide hb
  clear ha hb
  have HL := hide (lq_self a)
  have HE := eq_self a
  have HI := hide (lq_inf a)
  cases hn : nanD a with
  | true =>
    rw [hn] at HL HE HI
    clear hn
    go_enter Tryd.func4, Tryd.ntmps4
    go_wp2_with fail
    refine (c_costalive _ HT.out HP.out).mono ?_
    rintro e w1 ⟨rfl, b1⟩
    have B1 := hide b1
    clear b1
    go_wp2_with fail
    refine (c_atmost a b _).mono ?_
    rintro e w2 ⟨rfl, rfl⟩
    go_wp2_with fail
    refine (c_ratmost a b _ HA.out HB.out).mono ?_
    rintro e w3 ⟨rfl, rfl⟩
    go_wp2_with fail
    refine (c_mnan _).mono ?_
    rintro e w4 ⟨rfl, rfl⟩
    go_wp2_with fail
    refine (c_atmost a a _).mono ?_
    rintro e w5 ⟨rfl, rfl⟩
    rw [HL.out]
    go_wp2_with fail
    refine (c_atmost _ b _).mono ?_
    rintro e w6 ⟨rfl, rfl⟩
    rw [lq_nan]
    go_wp2_with fail
    refine (c_atmost a _ _).mono ?_
    rintro e w7 ⟨rfl, rfl⟩
    rw [lq_nan']
    go_wp2_with fail
    refine (c_minf _).mono ?_
    rintro e w8 ⟨rfl, rfl⟩
    go_wp2_with fail
    refine (c_atmost a _ _).mono ?_
    rintro e w9 ⟨rfl, rfl⟩
    rw [HI.out]
    go_wp2_with fail
    refine (c_mcopy _).mono ?_
    rintro e w10 ⟨rfl, rfl⟩
    go_wp2_with fail
    refine (c_atmost _ 0 _).mono ?_
    rintro e w11 ⟨rfl, rfl⟩
    rw [lq_zero]
    go_wp2_with fail
    refine (c_mcopy _).mono ?_
    rintro e w12 ⟨rfl, rfl⟩
    go_wp2_with fail
    refine (c_atmost 0 _ _).mono ?_
    rintro e w13 ⟨rfl, rfl⟩
    rw [lq_zero']
    go_wp2_with fail
    go_ret
    exact ⟨rfl, B1.out⟩
  | false =>
    rw [hn] at HL HE HI
    clear hn
    go_enter Tryd.func4, Tryd.ntmps4
    go_wp2_with fail
    refine (c_costalive _ HT.out HP.out).mono ?_
    rintro e w1 ⟨rfl, b1⟩
    have B1 := hide b1
    clear b1
    go_wp2_with fail
    refine (c_atmost a b _).mono ?_
    rintro e w2 ⟨rfl, rfl⟩
    go_wp2_with fail
    refine (c_ratmost a b _ HA.out HB.out).mono ?_
    rintro e w3 ⟨rfl, rfl⟩
    go_wp2_with fail
    refine (c_mnan _).mono ?_
    rintro e w4 ⟨rfl, rfl⟩
    go_wp2_with fail
    refine (c_atmost a a _).mono ?_
    rintro e w5 ⟨rfl, rfl⟩
    rw [HL.out]
    go_wp2_with fail
    refine (c_atmost _ b _).mono ?_
    rintro e w6 ⟨rfl, rfl⟩
    rw [lq_nan]
    go_wp2_with fail
    refine (c_atmost a _ _).mono ?_
    rintro e w7 ⟨rfl, rfl⟩
    rw [lq_nan']
    go_wp2_with fail
    refine (c_minf _).mono ?_
    rintro e w8 ⟨rfl, rfl⟩
    go_wp2_with fail
    refine (c_atmost a _ _).mono ?_
    rintro e w9 ⟨rfl, rfl⟩
    rw [HI.out]
    go_wp2_with fail
    refine (c_mcopy _).mono ?_
    rintro e w10 ⟨rfl, rfl⟩
    go_wp2_with fail
    refine (c_atmost _ 0 _).mono ?_
    rintro e w11 ⟨rfl, rfl⟩
    rw [lq_zero]
    go_wp2_with fail
    refine (c_mcopy _).mono ?_
    rintro e w12 ⟨rfl, rfl⟩
    go_wp2_with fail
    refine (c_atmost 0 _ _).mono ?_
    rintro e w13 ⟨rfl, rfl⟩
    rw [lq_zero']
    go_wp2_with fail
    go_ret
    exact ⟨rfl, B1.out⟩
end Go.Proofs.YtckcadhjpjjmjaaDoor
namespace Go.Proofs.YtckcadhjpjjmjaaDoor
open Go.ChangeShapes Go.WideShapes Go.ChangeAt Go.RowKit
theorem star_err : "*" ++ "errors.errorString" = "*errors.errorString" := by decide
theorem row_err (u : TypeId) (h : Tryd.prog.typeName? 3 u = some "*errors.errorString") : u = 140 :=
  typeName_ptr_named (nm := "errors.errorString") (by rw [star_err]; kernel_rfl) (by kernel_rfl) (by decide) u (by rw [star_err]; exact h)
theorem pow_tab : (Rows.laid_internal_strconv_uint64pow10 : DataW Unit) = Lib.tabData .u64 Lib.pow10Tab := by kernel_rfl
theorem gRange : Tryd.prog.globalNamed "strconv.ErrRange" = some 3 := by kernel_rfl
theorem gSyntax : Tryd.prog.globalNamed "strconv.ErrSyntax" = some 2 := by kernel_rfl
abbrev laidN : List (String × DataW Unit) := [("math/bits.deBruijn32tab", Rows.laid_math_bits_deBruijn32tab), ("math/bits.deBruijn64tab", Rows.laid_math_bits_deBruijn64tab), ("internal/strconv.uint64pow10", Rows.laid_internal_strconv_uint64pow10), ("unicode/utf8.acceptRanges", Rows.laid_unicode_utf8_acceptRanges), ("strconv.ErrRange", Rows.laid_strconv_ErrRange), ("strconv.ErrSyntax", Rows.laid_strconv_ErrSyntax), ("unicode/utf8.first", Rows.laid_unicode_utf8_first)]
theorem numAt_of {W : World} (hL : laidMet Tryd.prog laidN W) : NumAt W := by
  have h1 := hL.tail.tail
  rw [pow_tab] at h1
  have h2 := hL.tail.tail.tail.tail
  have h3 := h2.tail
  obtain ⟨a2, s2, hv2, -, -, -⟩ := laid_sentinel h2 gRange (by kernel_rfl) Tryd.underlying67 row_err Tryd.underlying140 Tryd.underlying142 rfl rfl Tryd.underlying9 (by kernel_rfl) (by kernel_rfl)
  obtain ⟨a3, s3, hv3, -, -, -⟩ := laid_sentinel h3 gSyntax (by kernel_rfl) Tryd.underlying67 row_err Tryd.underlying140 Tryd.underlying142 rfl rfl Tryd.underlying9 (by kernel_rfl) (by kernel_rfl)
  refine ⟨Lib.tabIs_of_head (g := 4) (by kernel_rfl) (by kernel_rfl) Tryd.underlying131 Tryd.underlying30 (by kernel_rfl) (by kernel_rfl) h1, ?_, ?_⟩
  · exact ⟨_, by simpa using World.var?_cell gSyntax hv3 0, .inr ⟨_, _, rfl⟩⟩
  · exact ⟨_, by simpa using World.var?_cell gRange hv2 0, .inr ⟨_, _, rfl⟩⟩
end Go.Proofs.YtckcadhjpjjmjaaDoor
namespace Go.Proofs.YtckcadhjpjjmjaaDoor
open Go.ChangeShapes Go.WideShapes Go.ChangeAt Go.RowKit
theorem db_tab : (Rows.laid_math_bits_deBruijn64tab : DataW Unit) = Lib.tabData .u8 (Lib.deBruijn64tab.map Int.ofNat) := by kernel_rfl
abbrev laidF : List (String × DataW Unit) := [("math/bits.deBruijn32tab", Rows.laid_math_bits_deBruijn32tab), ("math/bits.deBruijn64tab", Rows.laid_math_bits_deBruijn64tab), ("internal/strconv.uint64pow10", Rows.laid_internal_strconv_uint64pow10)]
theorem tz_of {W : World} (hL : laidMet Tryd.prog laidF W) : TzAt W ∧ PowAt W := by
  have h1 := hL.tail
  rw [db_tab] at h1
  have h2 := hL.tail.tail
  rw [pow_tab] at h2
  exact ⟨Lib.tabIs_of_head (g := 1) (by kernel_rfl) (by kernel_rfl) Tryd.underlying99 Tryd.underlying5 (by kernel_rfl) (by kernel_rfl) h1, Lib.tabIs_of_head (g := 4) (by kernel_rfl) (by kernel_rfl) Tryd.underlying131 Tryd.underlying30 (by kernel_rfl) (by kernel_rfl) h2⟩
end Go.Proofs.YtckcadhjpjjmjaaDoor
namespace Go.Proofs.YtckcadhjpjjmjaaDoor
open Go.ChangeShapes Go.WideShapes Go.ChangeAt Go.RowKit

def inReach {H : Type} (d : DataW H) (t : TypeId) : Prop := (d.weights Tryd.prog t).all (· ≤ reachBytes) = true
theorem each_part {H : Type} : ∀ {ts : List TypeId} {ds : List (DataW H)} {j : Nat} {t : TypeId} {d : DataW H}, (DataW.weightsEach Tryd.prog ts ds).all (· ≤ reachBytes) = true → ts[j]? = some t → ds[j]? = some d → inReach d t := by
  intro ts ds j t d h ht hd
  unfold inReach
  rw [List.all_eq_true] at h ⊢
  intro n hn
  exact h n (DataW.weights_mem_each ht hd n hn)
theorem all_mem {H : Type} : ∀ {e : TypeId} {ds : List (DataW H)} {d : DataW H}, (DataW.weightsAll Tryd.prog e ds).all (· ≤ reachBytes) = true → d ∈ ds → inReach d e
  | e, [], d, _, hd => by simp at hd
  | e, x :: r, d, h, hd => by
    simp only [DataW.weightsAll, List.all_append, Bool.and_eq_true] at h
    simp only [List.mem_cons] at hd
    rcases hd with rfl | hd
    · exact h.1
    · exact all_mem h.2 hd
theorem reach_str {H : Type} {s : ByteArray} {t : TypeId} (h : inReach (H := H) (.lit (.string s.data.toList)) t) : s.size ≤ 140737488355328 := by
  unfold inReach at h
  simp only [DataW.weights, List.all_cons, List.all_nil, Bool.and_true, decide_eq_true_eq] at h
  have e : s.data.toList.length = s.size := by rw [Array.length_toList]; rfl
  have := reachBytes_lt
  omega
theorem reach_struct {H : Type} {t : TypeId} {fs : Array Field} {parts : List (DataW H)} (hu : Tryd.prog.underlying t = some (.struct fs)) (h : inReach (.agg parts) t) : (DataW.weightsEach Tryd.prog (fs.toList.map (·.type)) parts).all (· ≤ reachBytes) = true := by
  unfold inReach at h
  simpa [DataW.weights, hu] using h
theorem reach_slice {H : Type} {t e : TypeId} {el sp : List (DataW H)} (hu : Tryd.prog.underlying t = some (.slice e)) (h : inReach (.slice el sp) t) : (DataW.weightsAll Tryd.prog e el).all (· ≤ reachBytes) = true := by
  unfold inReach at h
  simp only [DataW.weights, hu, List.all_cons, List.all_append, Bool.and_eq_true] at h
  exact h.2.1
variable {H : Type} {enc : TypeId × Value → H} {w : World} {spare : Nat → Bool} {held : Bool}
/-- As 'trod_row', of elements of which more is known. -/
theorem trod_row_s {α : Type} {d : Kd α} {Q : α → Prop} {t e : TypeId} {fuel : Nat} {cs : List Value} {x : DataW H × List MemPlace} (hT : Tryd.prog.underlying t = some (.slice e)) (hsz : Tryd.prog.cellsOf e = d.sz) (h0 : 0 < d.sz)
    (hel : ∀ n cs x, DataW.trod enc Tryd.prog w 0 spare held n e cs = some x → inReach x.1 e → ∃ y, d.K (· < w.heap.size) w y cs ∧ Q y) (h : DataW.trod enc Tryd.prog w 0 spare held fuel t cs = some x) (hw : inReach x.1 t) :
    ∃ A n c xs, cs = [.slice A n c] ∧ d.Row (· < w.heap.size) w A n c xs ∧ ∀ y ∈ xs, Q y := by
  rcases Go.Deep.open_slice hT h with ⟨rfl, _⟩ | ⟨a, len, cap, m, n, D, Pl, rfl, _, hl, hm, hmm, rfl, hi⟩
  · exact ⟨_, _, _, [], rfl, .nil _ _ _ _ _ (Nat.zero_le _), by simp⟩
  · have hlm : len ≤ m := by rw [hmm]; split <;> omega
    have hE := reach_slice hT hw
    rcases Nat.eq_zero_or_pos len with hz | hpos
    · subst hz
      exact ⟨_, _, _, [], rfl, .nil _ _ _ _ _ hm, by simp⟩
    have hc0 : ∀ i, i < len → ∃ y, ∃ cs', Tryd.prog.cellsOf e = cs'.length ∧ w.cells? 0 (a.add (i * Tryd.prog.cellsOf e)) (Tryd.prog.cellsOf e) = some cs' ∧ d.K (· < w.heap.size) w y cs' ∧ Q y := fun i hil => by
      obtain ⟨cs', hcs, htr⟩ := hi i (by omega)
      obtain ⟨y, hy, hq⟩ := hel _ _ _ htr (all_mem hE (List.mem_map.2 ⟨i, by simpa using hil, rfl⟩))
      obtain ⟨_, hcl, _⟩ := World.cells?_some hcs
      exact ⟨y, cs', hcl.symm, hcs, hy, hq⟩
    have hsp : a.spot = none ∧ a.block < w.heap.size := by
      obtain ⟨y, cs', hcl0, hcs, hy, _⟩ := hc0 0 hpos
      obtain ⟨_, hcl, hat⟩ := World.cells?_some hcs
      have hp : 0 < cs'.length := by rw [hcl, hsz]; exact h0
      have hg : w.cell? a = some (cs'[0]'(by omega)) := by
        have := (hat 0 (by omega)).trans (List.getElem?_eq_getElem (by omega))
        simpa [Addr.add] using this
      exact ⟨World.cell?_spot hg, World.block_lt_of_cell? w _ hg⟩
    obtain ⟨b, o, sp⟩ := a
    obtain ⟨rfl, hlt⟩ := hsp
    have hc : ∀ i, i < len → ∃ y, ∃ cs, (d.K (· < w.heap.size) w y cs ∧ w.rangeAt b (o + i * d.sz) cs) ∧ Q y := fun i hil => by
      obtain ⟨y, cs', _, hcs, hy, hq⟩ := hc0 i hil
      obtain ⟨_, hcl, hat⟩ := World.cells?_some hcs
      rw [hsz] at hcl hat
      refine ⟨y, cs', ⟨hy, fun j v hv => ?_⟩, hq⟩
      have := hat j (by rw [← hcl]; exact (List.getElem?_eq_some_iff.1 hv).1)
      rw [hv, Addr.add_none, Addr.add_none] at this
      exact this
    obtain ⟨xs, hxl, hx⟩ := list_of len hc
    exact ⟨_, _, _, xs, rfl, ⟨hxl, hl, hm, fun hn => ⟨b, o, rfl, hlt, hlt, fun i x hix => let ⟨cs, hq, _⟩ := hx i x hix; ⟨cs, hq⟩⟩⟩, fun y hy => by
      obtain ⟨i, hi', rfl⟩ := List.mem_iff_getElem.1 hy
      obtain ⟨cs, _, hq⟩ := hx i _ (List.getElem?_eq_getElem hi')
      exact hq⟩
theorem str_open_s (n : Nat) (cs : List Value) (x : DataW H × List MemPlace) (h : DataW.trod enc Tryd.prog w 0 spare held n 9 cs = some x) (hw : inReach x.1 9) :
    ∃ y : ByteArray, kStr.K (· < w.heap.size) w y cs ∧ y.size ≤ 140737488355328 := by
  obtain ⟨s, rfl, e, hm⟩ := DataW.trod_string Tryd.underlying9 h
  rw [e] at hw
  exact ⟨s, ⟨rfl, hm⟩, reach_str hw⟩
end Go.Proofs.YtckcadhjpjjmjaaDoor
namespace Go.Proofs.YtckcadhjpjjmjaaDoor
open Go.ChangeShapes Go.WideShapes Go.ChangeAt Go.RowKit

abbrev costBoundsLaid : List (String × DataW Unit) := [("math/bits.deBruijn32tab", Rows.laid_math_bits_deBruijn32tab), ("math/bits.deBruijn64tab", Rows.laid_math_bits_deBruijn64tab), ("internal/strconv.uint64pow10", Rows.laid_internal_strconv_uint64pow10)]
set_option maxRecDepth 100000 in
set_option maxHeartbeats 2000000 in
theorem costBounds_lifted (os : Os) (started : os.Started) (H : Type) (enc : TypeId × Value → H) :
    ReturnsInHanded {} Tryd.checked os 4 .any (fun w args => (Rows.costBoundsSpec.pre enc Tryd.prog Tryd.f4 [] false w args ∧ laidMetH Tryd.prog costBoundsLaid w) ∧ sizedMet enc Tryd.prog Tryd.f4 (OpenSpec.ofChange Rows.costBoundsSpec) false w args)
      (Rows.costBoundsSpec.post enc Tryd.prog Tryd.f4 false true false false) := by
  refine handed_both (C := Tryd.checked) (X := fun w _ => laidMetH Tryd.prog costBoundsLaid w) (fun _ _ _ hh h => h.of_heap hh) ownKnobD started (by kernel_rfl) Tryd.func4
    (ChangeSpec.witness_shaped (enc := enc) (C := Tryd.checked) (os := os) (X := fun w _ => laidMetH Tryd.prog costBoundsLaid w) false (World.laidAll Tryd.prog os costBoundsLaid) #[.int .u64 0, .int .u64 0] 8 (World.laidAll_os _ _ _)
      (World.shaped_of_ZipB (by kernel_rfl) (by kernel_rfl)) (by kernel_rfl) (by kernel_rfl) (by kernel_rfl)
      (by rw [MakeChecks.laidMetH_plain _ _ _ (by kernel_rfl)]; exact laidMet_laidAll _ (by kernel_rfl) (by kernel_rfl))) ?_
  intro W base args ds gs before hval0 hW hwt hL hsh
  have hval : ∀ (j : Nat) t v, Tryd.f4.params[j]? = some t → args[j]? = some v → Value.okWide Tryd.prog W .any base t v := hval0
  have hW' := hW
  obtain ⟨p, q, hA0, hV, rfl, hfz, hnd⟩ := hW
  have hA : DataW.TrodAll enc Tryd.prog W 0 (fun _ => true) true Tryd.f4.params.toList args.toList ds p := hA0
  have hw2 : (DataW.weightsEach Tryd.prog (Tryd.f4.params.toList ++ Rows.costBoundsSpec.plain.varTypes Tryd.prog) (ds ++ gs)).all (· ≤ reachBytes) = true := hwt
  rw [Tryd.params4] at hA hval hw2
  obtain ⟨v0, v1, d0, d1, p0, p1, rfl, rfl, rfl, ⟨n0, h0⟩, ⟨n1, h1⟩⟩ := trodAll_two hA
  obtain ⟨rfl, rfl⟩ := trodVars_none hV
  have g0 := each_part (j := 0) (t := 30) (d := d0) hw2 rfl rfl
  have g1 := each_part (j := 1) (t := 30) (d := d1) hw2 rfl rfl
  obtain ⟨z0, rfl, rfl, rfl, wz0⟩ := open_int Tryd.underlying30 (hval 0 30 v0 rfl rfl) ⟨n0, h0⟩
  simp [Lit.wf, IntKind.min, IntKind.max, IntKind.signed, IntKind.bits] at wz0
  obtain ⟨a, rfl⟩ : ∃ n : Nat, z0 = n := ⟨z0.toNat, by omega⟩
  obtain ⟨z1, rfl, rfl, rfl, wz1⟩ := open_int Tryd.underlying30 (hval 1 30 v1 rfl rfl) ⟨n1, h1⟩
  simp [Lit.wf, IntKind.min, IntKind.max, IntKind.signed, IntKind.bits] at wz1
  obtain ⟨b, rfl⟩ : ∃ n : Nat, z1 = n := ⟨z1.toNat, by omega⟩
  rw [MakeChecks.laidMetH_plain _ _ _ (by kernel_rfl)] at hL
  obtain ⟨hT, hP⟩ := tz_of hL
  clear hA0 hval0 
  refine (c_costbounds a b W (by omega) (by omega) hT hP).mono fun e W' ⟨he, hg⟩ => ?_
  subst he
  exact ⟨_, rfl, post_true laidOutD (by kernel_rfl) (by kernel_rfl) Tryd.underlying4 rfl hW' rfl hg⟩

theorem costBounds_row : Rows.CostBoundsSaid :=
  OpenClaim.holds_of_wide 4 Tryd.f4 rfl rfl rfl rfl rfl rfl rfl ⟨rfl, rfl, rfl, rfl, rfl⟩ rfl rfl rfl rfl rfl (by kernel_rfl) Tryd.func4 (by kernel_rfl)
    (of_decide_eq_true (by kernel_rfl)) (by unfold Func.isWrapper; first | (rw [if_pos (by decide +kernel)]; kernel_rfl) | (rw [if_neg (by decide +kernel)]; exact ⟨rfl, rfl⟩))
    (fun os started H enc _ => costBounds_lifted os started H enc)
theorem costBounds_proved : Rows.CostBoundsCardSaid :=
  Claim7.holds_tied_plain_at .later [] [.data, .data, .data] true (true, "2ec3429c51431b7b409ee26f38c36534d9ca1e5e5c841bce7aa769e90a65a99b") true
    costBounds_row (fun _ h => by cases h) (by kernel_rfl) (fun _ h => by cases h) costBounds_row_tie rfl ⟨rfl, rfl⟩ (by kernel_rfl) rfl
    (fun f fn hf hfn => by
      obtain rfl : f = 4 := Option.some.inj ((show Tryd.prog.funcNamed "chitty/chittylaw15.CostBounds" = some 4 by kernel_rfl).symm.trans hf) |>.symm
      obtain rfl : fn = Tryd.f4 := (Option.some.inj (Tryd.func4.symm.trans hfn)).symm
      exact ⟨by kernel_rfl, fun j t ht => by
        rw [Tryd.params4] at ht
        have hm : t ∈ [30, 30] := by simpa using Array.mem_of_getElem? ht
        have hall : ([30, 30].all fun u => !Tryd.prog.wantsStandIn u) = true := by kernel_rfl
        exact (show Tryd.prog.wantsStandIn t = false by simpa using List.all_eq_true.1 hall t hm)⟩)
    (by kernel_rfl)
end Go.Proofs.YtckcadhjpjjmjaaDoor
