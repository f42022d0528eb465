/- Texts of one proof, one behind the other: Reg, Reg2, Reg3, Mxd, Lx5, Pt5, Lx7, Pt6, PtL, Pt7, Pt8, Pt10, Siz. No condition. -/
import Derived.Orders
import Derived.Tactics
import Derived.Below
import Derived.WalkKit
import Derived.Test.YtckcadhjpjjmjaaDoorChecked
import Derived.Test.YtckcadhjpjjmjaaDoorPoa
import Derived.Laws.ResultCell
import Derived.SizedLaws
namespace Go.Proofs.YtckcadhjpjjmjaaDoor
open Go.RowKit

section
variable {P : Program} {ops : Array Oper}

/-- The operations that surely came ahead of one (so deep). -/
def needs (ops : Array Oper) : Nat → Nat → List Nat
  | 0, _ => []
  | f + 1, i => match ops[i]? with
    | none => []
    | some o => (o.after.toList.filter fun e => Region.binds .any e).flatMap fun e => e.on :: needs ops f e.on
def dstAt (ops : Array Oper) (i : Nat) : Option Tmp := (ops[i]?).bind (·.dst)
/-- What is looked up of a region: edges point back; no slot is written twice; from the n-th on each operation waits for all ahead of it. -/
def regOk (ops : Array Oper) (n : Nat) : Bool :=
  (List.range ops.size).all (fun i => ((ops[i]?).map fun o => o.after.all fun e => !Region.binds .any e || decide (e.on < i)).getD true) &&
  (List.range ops.size).all (fun i => (List.range i).all fun j => match dstAt ops i, dstAt ops j with | some d, some e => d != e || decide (n ≤ i) | _, _ => true) &&
  (List.range ops.size).all (fun i => decide (i < n) || (List.range i).all fun j => (needs ops ops.size i).contains j) && decide (n ≤ ops.size)
/-- Is it a slot that none of the first n operations writes? -/
def freeSlot (ops : Array Oper) (n : Nat) (t : Tmp) : Bool := (List.range n).all fun i => dstAt ops i != some t

/-- The values of the first n operations, laid in their slots. -/
def putN (ops : Array Oper) (vs : Nat → Value) : Nat → Act → Act
  | 0, a => a
  | n + 1, a => (putN ops vs n a).put (dstAt ops n) (vs n)

theorem put_size (a : Act) (d : Option Tmp) (v : Value) : (a.put d v).tmps.size = a.tmps.size := by cases d <;> simp [Act.put]
theorem put_defers' (a : Act) (d : Option Tmp) (v : Value) : (a.put d v).defers = a.defers := by cases d <;> rfl
theorem getD_put_same {a : Act} {d : Tmp} {v : Value} (h : d < a.tmps.size) : (a.put (some d) v).tmps.getD d undef = v := by
  simp [Act.put, h]
theorem getD_put_ne {a : Act} {d : Option Tmp} {t : Tmp} {v : Value} (h : d ≠ some t) : (a.put d v).tmps.getD t undef = a.tmps.getD t undef := by
  cases d with
  | none => rfl
  | some d =>
    have : d ≠ t := fun e => h (by rw [e])
    simp [Act.put, Array.getElem?_setIfInBounds_ne this]

def cnt (l : Array Bool) : Nat → Nat
  | 0 => 0
  | n + 1 => cnt l n + (if l.getD n false = true then 0 else 1)
theorem getD_set_same {l : Array Bool} {i : Nat} (h : i < l.size) (d : Bool) : (l.setIfInBounds i true).getD i d = true := by simp [h]
theorem cnt_far {l : Array Bool} {i : Nat} : ∀ {n : Nat}, n ≤ i → cnt (l.setIfInBounds i true) n = cnt l n
  | 0, _ => rfl
  | n + 1, h => by rw [cnt, cnt, cnt_far (by omega), getD_set_ne false (by omega)]
theorem cnt_set {l : Array Bool} {i : Nat} (hi : i < l.size) (h0 : l.getD i false = false) : ∀ {n : Nat}, i < n → cnt (l.setIfInBounds i true) n + 1 = cnt l n
  | 0, h => absurd h (by omega)
  | n + 1, h => by
    rw [cnt, cnt]
    by_cases e : i = n
    · subst e
      rw [cnt_far (Nat.le_refl _), getD_set_same hi, h0]
      simp
    · have := cnt_set hi h0 (n := n) (by omega)
      rw [getD_set_ne false e]
      omega
theorem cnt_zero {l : Array Bool} : ∀ {n : Nat}, cnt l n = 0 → ∀ i, i < n → l.getD i false = true
  | 0, _, i, hi => absurd hi (by omega)
  | n + 1, h, i, hi => by
    rw [cnt] at h
    by_cases e : i = n
    · subst e
      by_cases hb : l.getD i false = true
      · exact hb
      · rw [if_neg hb] at h; omega
    · exact cnt_zero (n := n) (by omega) i (by omega)

/-- What is listed waits for nothing that isn't. -/
def Closed (ops : Array Oper) (l : Array Bool) : Prop := ∀ (i : Nat) (o : Oper), ops[i]? = some o → l.getD i false = true → ∀ e ∈ o.after, Region.binds .any e = true → l.getD e.on false = true
theorem needs_listed {l : Array Bool} (hc : Closed ops l) : ∀ (f i : Nat) (o : Oper), ops[i]? = some o → (∀ e ∈ o.after, Region.binds .any e = true → l.getD e.on false = true) → ∀ j ∈ needs ops f i, l.getD j false = true
  | 0, _, _, _, _, j, hj => by simp [needs] at hj
  | f + 1, i, o, ho, he, j, hj => by
    rw [needs, ho] at hj
    simp only [List.mem_flatMap, List.mem_filter] at hj
    obtain ⟨e, ⟨hem, hb⟩, hj⟩ := hj
    have hl := he e (by simpa using hem) hb
    rcases List.mem_cons.1 hj with rfl | hj
    · exact hl
    · cases hq : ops[e.on]? with
      | none =>
        cases f with
        | zero => simp [needs] at hj
        | succ f => rw [needs, hq] at hj; simp at hj
      | some o' => exact needs_listed hc f e.on o' hq (hc e.on o' hq hl) j hj

theorem regOk_edges {n : Nat} (h : regOk ops n = true) {i : Nat} {o : Oper} (ho : ops[i]? = some o) : ∀ e ∈ o.after, Region.binds .any e = true → e.on < i := by
  intro e he hb
  simp only [regOk, Bool.and_eq_true, List.all_eq_true, List.mem_range] at h
  have hi : i < ops.size := (Array.getElem?_eq_some_iff.1 ho).1
  have h1 := h.1.1.1 i hi
  rw [ho] at h1
  simp only [Option.map_some, Option.getD_some, Array.all_eq_true_iff_forall_mem, Bool.or_eq_true, decide_eq_true_eq] at h1
  rcases h1 e he with h' | h'
  · simp [hb] at h'
  · exact h'
theorem regOk_tail {n : Nat} (h : regOk ops n = true) {i j : Nat} (hi : i < ops.size) (hn : n ≤ i) (hj : j < i) : j ∈ needs ops ops.size i := by
  simp only [regOk, Bool.and_eq_true, List.all_eq_true, List.mem_range, Bool.or_eq_true, decide_eq_true_eq] at h
  rcases h.1.2 i hi with h' | h'
  · omega
  · simpa using h' j hj
theorem regOk_dst {n : Nat} (h : regOk ops n = true) {i j : Nat} (hi : i < n) (hj : j < n) (hne : i ≠ j) {d : Tmp} (h1 : dstAt ops i = some d) (h2 : dstAt ops j = some d) : False := by
  have hn : n ≤ ops.size := by simp only [regOk, Bool.and_eq_true, decide_eq_true_eq] at h; exact h.2
  simp only [regOk, Bool.and_eq_true, List.all_eq_true, List.mem_range] at h
  have hd := h.1.1.2
  rcases Nat.lt_or_gt_of_ne hne with hlt | hlt
  · have := hd j (by omega) i hlt
    rw [h1, h2] at this
    simp at this
    omega
  · have := hd i (by omega) j hlt
    rw [h1, h2] at this
    simp at this
    omega

/-- The tail: one operation behind the other. -/
theorem wpAny_tail {Q : Exit → Act → World → Prop} {n : Nat} (hok : regOk ops n = true) : ∀ (fuel k : Nat) (l : Array Bool) (a : Act) (w : World), l.size = ops.size → n ≤ k → k ≤ ops.size → ops.size ≤ k + fuel →
    (∀ i, i < ops.size → (l.getD i false = true ↔ i < k)) → wpList P ops Q (ops.toList.drop k) a w → wpAny P .any ops Q fuel l a w := by
  intro fuel
  induction fuel with
  | zero =>
    intro k l a w hs hn hk hf hl h
    have hk' : k = ops.size := by omega
    refine ⟨?_, ?_⟩
    · apply List.eq_nil_iff_forall_not_mem.2
      intro j hj
      obtain ⟨h0, o, ho, _⟩ := mem_ready.1 hj
      have hj' : j < ops.size := (Array.getElem?_eq_some_iff.1 ho).1
      have := (hl j hj').2 (by omega)
      simp [hs, hj'] at h0 this
      simp [h0] at this
    · rw [hk', List.drop_eq_nil_of_le (by simp)] at h
      exact h
  | succ fuel ih =>
    intro k l a w hs hn hk hf hl h
    by_cases hke : k = ops.size
    · refine wpAny_done ?_ ?_ _
      · apply List.eq_nil_iff_forall_not_mem.2
        intro j hj
        obtain ⟨h0, o, ho, _⟩ := mem_ready.1 hj
        have hj' : j < ops.size := (Array.getElem?_eq_some_iff.1 ho).1
        have := (hl j hj').2 (by omega)
        simp [hs, hj'] at h0 this
        simp [h0] at this
      · rw [hke, List.drop_eq_nil_of_le (by simp)] at h
        exact h
    · have hk' : k < ops.size := by omega
      have hok' : ops[k]? = some ops[k] := Array.getElem?_eq_getElem hk'
      have hrk : k ∈ Region.ready .any ops l := by
        refine mem_ready.2 ⟨?_, _, hok', fun e he hb => (hl _ ?_).2 (regOk_edges hok hok' e he hb)⟩
        · have : ¬ l.getD k false = true := fun h' => by have := (hl k hk').1 h'; omega
          simp [hs, hk'] at this ⊢
          exact this
        · have := regOk_edges hok hok' e he hb; omega
      refine ⟨fun h0 => (by rw [h0] at hrk; simp at hrk), fun i hi => ?_⟩
      have hik : i = k := by
        obtain ⟨h0, o, ho, hall⟩ := mem_ready.1 hi
        have hi' : i < ops.size := (Array.getElem?_eq_some_iff.1 ho).1
        have h1 : ¬ i < k := fun hlt => by
          have := (hl i hi').2 hlt
          simp [hs, hi'] at h0 this
          simp [h0] at this
        rcases Nat.lt_or_ge k i with hlt | hge
        · have hcl : Closed ops l := fun i' o' ho' hl' e he hb => by
            have hi'' : i' < ops.size := (Array.getElem?_eq_some_iff.1 ho').1
            have h2 := (hl i' hi'').1 hl'
            have h3 := regOk_edges hok ho' e he hb
            exact (hl _ (by omega)).2 (by omega)
          have := needs_listed hcl ops.size i o ho hall k (regOk_tail hok hi' (by omega) hlt)
          have := (hl k hk').1 this
          omega
        · omega
      subst hik
      have hd : ops.toList.drop i = ops[i] :: ops.toList.drop (i + 1) := by
        rw [List.drop_eq_getElem_cons (by simpa using hk')]
        simp
      rw [hd] at h
      unfold wpList at h
      have hnext : ∀ a w, wpList P ops Q (ops.toList.drop (i + 1)) a w → wpAny P .any ops Q fuel (l.setIfInBounds i true) a w := by
        intro a w h
        refine ih (i + 1) _ a w (by simpa using hs) (by omega) (by omega) (by omega) (fun j hj => ?_) h
        by_cases e : i = j
        · subst e
          simp [hs, hk']
        · rw [getD_set_ne false e, hl j hj]
          omega
      unfold wpOp
      rw [hok']
      simp only
      split
      · rename_i hw
        rw [if_pos hw] at h
        exact h.imp (Oper.wp_mono hnext) id
      · rename_i hw
        rw [if_neg hw] at h
        exact hnext _ _ h

theorem putN_size (vs : Nat → Value) (a : Act) : ∀ n, (putN ops vs n a).tmps.size = a.tmps.size ∧ (putN ops vs n a).defers = a.defers
  | 0 => ⟨rfl, rfl⟩
  | n + 1 => by have := putN_size vs a n; exact ⟨(put_size _ _ _).trans this.1, (put_defers' _ _ _).trans this.2⟩
theorem putN_free (vs : Nat → Value) (a : Act) {t : Tmp} : ∀ n, (∀ i, i < n → dstAt ops i ≠ some t) → (putN ops vs n a).tmps.getD t undef = a.tmps.getD t undef
  | 0, _ => rfl
  | n + 1, h => by
    rw [putN, getD_put_ne (h n (by omega))]
    exact putN_free vs a n fun i hi => h i (by omega)
theorem putN_at (vs : Nat → Value) (a : Act) {t : Tmp} (ht : t < a.tmps.size) {i : Nat} (hi : dstAt ops i = some t) : ∀ n, i < n → (∀ j, j < n → j ≠ i → dstAt ops j ≠ some t) → (putN ops vs n a).tmps.getD t undef = vs i
  | 0, h, _ => absurd h (by omega)
  | n + 1, h, hd => by
    rw [putN]
    by_cases e : i = n
    · subst e
      rw [hi]
      exact getD_put_same (by rw [(putN_size vs a i).1]; exact ht)
    · rw [getD_put_ne (hd n (by omega) (fun e' => e e'.symm))]
      exact putN_at vs a ht hi n (by omega) fun j hj hne => hd j (by omega) hne

/-- THE LAW. S i: what is known of the value that operation i yields, and goes on to hold; Le: how worlds grow. -/
theorem wp_region_mono {Q : Exit → Act → World → Prop} {id : Nat} {a0 : Act} {w0 : World} (hm : P.follows .mixedOrders = true) (n : Nat) (hok : regOk ops n = true)
    (hslots : ((List.range n).all fun i => (dstAt ops i).all fun d => decide (d < a0.tmps.size)) = true)
    (Le : World → World → Prop) (hrefl : ∀ w, Le w w) (htrans : ∀ w w' w'', Le w w' → Le w' w'' → Le w w'')
    (S : Nat → Value → World → Prop) (hS : ∀ i v w w', Le w w' → S i v w → S i v w')
    (hop : ∀ i, i < n → ∀ o, ops[i]? = some o → ∀ (a : Act) (w : World), Le w0.drew w → a.defers = a0.defers → (∀ t, freeSlot ops n t = true → a.tmps.getD t undef = a0.tmps.getD t undef) →
      (∀ j d, (needs ops ops.size i).contains j = true → dstAt ops j = some d → S j (a.tmps.getD d undef) w) →
      ∀ K : Act → World → Prop, (∀ v w', Le w w' → S i v w' → K (a.put o.dst v) w') → if Region.wanted o (yielded ops a.tmps) = true then o.wp P a w K Q else K (a.put o.dst undef) w)
    (hQ : ∀ (vs : Nat → Value) (w : World), Le w0.drew w → (∀ i, i < n → (dstAt ops i).isSome = true → S i (vs i) w) → wpList P ops Q (ops.toList.drop n) (putN ops vs n a0) w) :
    (Code.region id ops true).wp P Q a0 w0 := by
  refine wp_region_any hm ?_
  have hnsz : n ≤ ops.size := by simp only [regOk, Bool.and_eq_true, decide_eq_true_eq] at hok; exact hok.2
  have hslot : ∀ i d, i < n → dstAt ops i = some d → d < a0.tmps.size := by
    intro i d hi hd
    have := List.all_eq_true.1 hslots i (by simpa using hi)
    rw [hd] at this
    simpa using this
  have key : ∀ (fuel : Nat) (l : Array Bool) (a : Act) (w : World), l.size = ops.size → cnt l ops.size ≤ fuel → Closed ops l → (∀ i, n ≤ i → i < ops.size → l.getD i false = false) → Le w0.drew w → a.defers = a0.defers → a.tmps.size = a0.tmps.size →
      (∀ t, (∀ i, i < n → l.getD i false = true → dstAt ops i ≠ some t) → a.tmps.getD t undef = a0.tmps.getD t undef) →
      (∀ i d, i < n → l.getD i false = true → dstAt ops i = some d → S i (a.tmps.getD d undef) w) → wpAny P .any ops Q fuel l a w := by
    intro fuel
    -- all of the first n are listed: the tail
    have tail : ∀ (fuel : Nat) (l : Array Bool) (a : Act) (w : World), l.size = ops.size → cnt l ops.size ≤ fuel → (∀ i, n ≤ i → i < ops.size → l.getD i false = false) → (∀ i, i < n → l.getD i false = true) → Le w0.drew w → a.defers = a0.defers → a.tmps.size = a0.tmps.size →
        (∀ t, (∀ i, i < n → l.getD i false = true → dstAt ops i ≠ some t) → a.tmps.getD t undef = a0.tmps.getD t undef) →
        (∀ i d, i < n → l.getD i false = true → dstAt ops i = some d → S i (a.tmps.getD d undef) w) → wpAny P .any ops Q fuel l a w := by
      intro fuel l a w hs hc ht hall hle hd hsz hfree hSi
      have hcn : ∀ m, m ≤ ops.size → n ≤ m → cnt l m = m - n := by
        intro m
        induction m with
        | zero => intro _ h; rw [cnt]; omega
        | succ m ih =>
          intro h1 h2
          rw [cnt]
          by_cases e : n = m + 1
          · have : ∀ q, q ≤ m + 1 → cnt l q = 0 := by
              intro q
              induction q with
              | zero => intro _; rfl
              | succ q ihq => intro hq; rw [cnt, ihq (by omega), if_pos (hall q (by omega))]
            have h3 := this m (by omega)
            rw [h3, if_pos (hall m (by omega))]; omega
          · rw [ih (by omega) (by omega), ht m (by omega) (by omega)]
            simp; omega
      refine wpAny_tail hok fuel n l a w hs (Nat.le_refl _) hnsz (by have := hcn ops.size (Nat.le_refl _) hnsz; omega) (fun i hi => ⟨fun h => ?_, fun h => hall i h⟩) ?_
      · rcases Nat.lt_or_ge i n with h' | h'
        · exact h'
        · rw [ht i h' hi] at h; cases h
      · have ha : a = putN ops (fun i => ((dstAt ops i).map fun d => a.tmps.getD d undef).getD undef) n a0 := by
          have h1 := putN_size (ops := ops) (fun i => ((dstAt ops i).map fun d => a.tmps.getD d undef).getD undef) a0 n
          have ht : a.tmps = (putN ops (fun i => ((dstAt ops i).map fun d => a.tmps.getD d undef).getD undef) n a0).tmps := by
            apply Array.ext
            · rw [h1.1, hsz]
            · intro t ht1 ht2
              have hg : a.tmps.getD t undef = (putN ops (fun i => ((dstAt ops i).map fun d => a.tmps.getD d undef).getD undef) n a0).tmps.getD t undef := by
                by_cases hex : ∃ i, i < n ∧ dstAt ops i = some t
                · obtain ⟨i, hi, hdi⟩ := hex
                  rw [putN_at _ a0 (hsz ▸ ht1) hdi n hi (fun j hj hne hdj => regOk_dst hok hj hi hne hdj hdi)]
                  simp only [hdi, Option.map_some, Option.getD_some]
                · rw [putN_free _ a0 n (fun i hi hdi => hex ⟨i, hi, hdi⟩)]
                  exact hfree t fun i hi _ hdi => hex ⟨i, hi, hdi⟩
              have e1 : ∀ (A : Array Value) (h : t < A.size), A.getD t undef = A[t] := fun A h => by unfold Array.getD; rw [dif_pos h]; rfl
              rw [e1 _ ht1, e1 _ ht2] at hg
              exact hg
          cases a with
          | mk ta da =>
            cases hp : putN ops (fun i => ((dstAt ops i).map fun d => (Act.mk ta da).tmps.getD d undef).getD undef) n a0 with
            | mk tb db =>
              rw [hp] at ht h1
              simp only at ht h1 hd
              rw [ht, hd, h1.2]
        rw [ha]
        refine hQ _ w hle fun i hi hsome => ?_
        obtain ⟨d, hdi⟩ := Option.isSome_iff_exists.1 hsome
        simp only [hdi, Option.map_some, Option.getD_some]
        exact hSi i d hi (hall i hi) hdi
    induction fuel with
    | zero =>
      intro l a w hs hc hcl ht hle hd hsz hfree hSi
      have hz := cnt_zero (l := l) (n := ops.size) (by omega)
      exact tail 0 l a w hs hc ht (fun i hi => hz i (by omega)) hle hd hsz hfree hSi
    | succ fuel ih =>
      intro l a w hs hc hcl ht hle hd hsz hfree hSi
      by_cases hall : ∀ i, i < n → l.getD i false = true
      · exact tail _ l a w hs hc ht hall hle hd hsz hfree hSi
      · refine ⟨fun h0 => absurd ?_ hall, fun i hi => ?_⟩
        · -- nothing is ready: all are listed
          intro i
          induction i using Nat.strongRecOn with
          | _ i ihi =>
            intro hi
            by_cases hb : l.getD i false = true
            · exact hb
            · exfalso
              have hi' : i < ops.size := by omega
              have : i ∈ Region.ready .any ops l := mem_ready.2 ⟨by simp [hs, hi'] at hb ⊢; exact hb, _, Array.getElem?_eq_getElem hi', fun e he hbd => by
                have hlt := regOk_edges hok (Array.getElem?_eq_getElem hi') e he hbd
                exact ihi e.on hlt (by omega)⟩
              rw [h0] at this
              simp at this
        · obtain ⟨h0, o, ho, hallo⟩ := mem_ready.1 hi
          have hi' : i < ops.size := (Array.getElem?_eq_some_iff.1 ho).1
          have h0' : l.getD i false = false := by simp [hs, hi'] at h0 ⊢; exact h0
          have hin : i < n := by
            rcases Nat.lt_or_ge i n with h' | h'
            · exact h'
            · exfalso
              refine hall fun j hj => needs_listed hcl ops.size i o ho hallo j (regOk_tail hok hi' h' (by omega))
          have hneeds := needs_listed hcl ops.size i o ho hallo
          have hdst : dstAt ops i = o.dst := by simp [dstAt, ho]
          have hnext : ∀ v w', Le w w' → S i v w' → wpAny P .any ops Q fuel (l.setIfInBounds i true) (a.put o.dst v) w' := by
            intro v w' hlw hSv
            refine ih _ _ _ (by simpa using hs) (by have := cnt_set (by omega) h0' hi'; omega) ?_ ?_ (htrans _ _ _ hle hlw) (by rw [put_defers']; exact hd) (by rw [put_size]; exact hsz) ?_ ?_
            · intro i' o' ho' hl' e he hb
              by_cases e' : i = i'
              · subst e'
                rw [ho] at ho'
                have := Option.some.inj ho'
                subst this
                exact getD_set_true (hallo e he hb)
              · rw [getD_set_ne false e'] at hl'
                exact getD_set_true (hcl i' o' ho' hl' e he hb)
            · intro j hj hj'
              rw [getD_set_ne false (by omega)]
              exact ht j hj hj'
            · intro t hft
              rw [getD_put_ne]
              · exact hfree t fun j hj hlj => hft j hj (getD_set_true hlj)
              · rw [← hdst]
                exact hft i hin (getD_set_same (by omega) _)
            · intro j d hj hlj hdj
              by_cases e : i = j
              · subst e
                rw [← hdst, hdj, getD_put_same (by rw [hsz]; exact hslot i d hin hdj)]
                exact hSv
              · rw [getD_set_ne false e] at hlj
                rw [getD_put_ne]
                · exact hS j _ w w' hlw (hSi j d hj hlj hdj)
                · rw [← hdst]
                  exact fun h => regOk_dst hok hin hj e h hdj
          have := hop i hin o ho a w hle hd (fun t hft => hfree t fun j hj _ hdj => by
              simp only [freeSlot, List.all_eq_true, List.mem_range, bne_iff_ne] at hft
              exact hft j hj hdj)
            (fun j d hj hdj => by
              have hjm : j ∈ needs ops ops.size i := by simpa using hj
              have hlj := hneeds j hjm
              have hjn : j < n := by
                rcases Nat.lt_or_ge j n with h' | h'
                · exact h'
                · exfalso
                  rcases Nat.lt_or_ge j ops.size with h'' | h''
                  · rw [ht j h' h''] at hlj; cases hlj
                  · simp [dstAt, Array.getElem?_eq_none h''] at hdj
              exact hSi j d hjn hlj hdj)
            (wpAny P .any ops Q fuel (l.setIfInBounds i true)) hnext
          unfold wpOp
          rw [ho]
          simp only
          split
          · rename_i hw; rw [if_pos hw] at this; exact .inl this
          · rename_i hw; rw [if_neg hw] at this; exact this
  refine key ops.size _ a0 w0.drew (by simp) ?_ ?_ ?_ (hrefl _) rfl rfl (fun _ _ => rfl) ?_
  · have : ∀ (l : Array Bool) m, cnt l m ≤ m := by
      intro l m
      induction m with
      | zero => exact Nat.le_refl _
      | succ m ih => rw [cnt]; split <;> omega
    exact this _ _
  · intro i o ho hl
    have hi : i < ops.size := (Array.getElem?_eq_some_iff.1 ho).1
    simp [hi] at hl
  · intro i _ hi
    simp [hi]
  · intro i d hi hl
    have : i < ops.size := by omega
    simp [this] at hl

/-- The world has grown: what was there is as it was. -/
def Ext (w w' : World) : Prop := Below w.heap.size w w'
theorem Ext.refl (w : World) : Ext w w := Below.refl _ _
theorem Ext.trans {w w' w'' : World} (h : Ext w w') (k : Ext w' w'') : Ext w w'' :=
  Below.trans h (Below.mono k h.size)
theorem Ext.drew (w : World) : Ext w w.drew := (Below.refl _ _).drew
theorem Ext.alloc (w : World) (o : Obj) : Ext w (w.alloc o) := (Below.refl _ _).alloc (Nat.le_refl _) o
theorem Ext.cell {w w' : World} (h : Ext w w') {a : Addr} {v : Value} (hc : w.cell? a = some v) : w'.cell? a = some v :=
  (Below.cell h (World.block_lt_of_cell? w a hc)).trans hc
theorem Ext.heap {w w' : World} (h : Ext w w') {b : Nat} {o : Obj} (hc : w.heap[b]? = some o) : w'.heap[b]? = some o := by
  have hlt : b < w.heap.size := by
    rcases Nat.lt_or_ge b w.heap.size with h' | h'
    · exact h'
    · rw [Array.getElem?_eq_none h'] at hc; cases hc
  exact (h.block b hlt).trans hc

/-- What is asked of an operation: whatever came ahead of it besides what it waits for. -/
def Hop (P : Program) (ops : Array Oper) (n : Nat) (a0 : Act) (w0 : World) (S : Nat → Value → World → Prop) (Q : Exit → Act → World → Prop) (i : Nat) (o : Oper) : Prop :=
  ∀ (a : Act) (w : World), Ext w0 w → a.defers = a0.defers → (∀ t, freeSlot ops n t = true → a.eval (.tmp t) = a0.eval (.tmp t)) →
    (∀ j d, (needs ops ops.size i).contains j = true → dstAt ops j = some d → S j (a.eval (.tmp d)) w) →
    ∀ K : Act → World → Prop, (∀ v w', Ext w w' → S i v w' → K (a.put o.dst v) w') →
      match o.guard with
      | none => o.wp P a w K Q
      | some (j, want) => if yielded ops a.tmps j = some want then o.wp P a w K Q else K (a.put o.dst undef) w
def Hops (P : Program) (ops : Array Oper) (n : Nat) (a0 : Act) (w0 : World) (S : Nat → Value → World → Prop) (Q : Exit → Act → World → Prop) : List Oper → Nat → Prop
  | [], _ => True
  | o :: r, i => Hop P ops n a0 w0 S Q i o ∧ Hops P ops n a0 w0 S Q r (i + 1)
theorem hops_at {n : Nat} {a0 : Act} {w0 : World} {S : Nat → Value → World → Prop} {Q : Exit → Act → World → Prop} : ∀ (l : List Oper) (k i : Nat) (o : Oper), Hops P ops n a0 w0 S Q l k → l[i]? = some o → Hop P ops n a0 w0 S Q (k + i) o
  | [], _, i, o, _, hi => by simp at hi
  | x :: l, k, 0, o, h, hi => by simp at hi; subst hi; exact h.1
  | x :: l, k, i + 1, o, h, hi => by
    have := hops_at l (k + 1) i o h.2 (by simpa using hi)
    rw [show k + (i + 1) = k + 1 + i from by omega]
    exact this
theorem wp_region_ext {Q : Exit → Act → World → Prop} {id : Nat} {a0 : Act} {w0 : World} (hm : P.follows .mixedOrders = true) (n : Nat) (S : Nat → Value → World → Prop) (hok : regOk ops n = true)
    (hslots : ((List.range n).all fun i => (dstAt ops i).all fun d => decide (d < a0.tmps.size)) = true)
    (hS : ∀ i v w w', Ext w w' → S i v w → S i v w') (hop : Hops P ops n a0 w0 S Q (ops.toList.take n) 0)
    (hQ : ∀ (vs : Nat → Value) (w : World), Ext w0 w → (∀ i, i < n → (dstAt ops i).isSome = true → S i (vs i) w) → wpList P ops Q (ops.toList.drop n) (putN ops vs n a0) w) :
    (Code.region id ops true).wp P Q a0 w0 := by
  refine wp_region_mono hm n hok hslots Ext Ext.refl (fun _ _ _ => Ext.trans) S hS (fun i hi o ho a w hle hd hf hs K hK => ?_) (fun vs w hle => hQ vs w ((Ext.drew _).trans hle))
  have h := hops_at _ 0 i o hop (by rw [List.getElem?_take, if_pos hi]; simpa using ho)
  rw [Nat.zero_add] at h
  have h := h a w ((Ext.drew _).trans hle) hd hf hs K hK
  cases hg : o.guard with
  | none =>
    rw [hg] at h
    rw [if_pos (by simp [Region.wanted, hg])]
    exact h
  | some jw =>
    obtain ⟨j, want⟩ := jw
    rw [hg] at h
    simp only at h
    split
    · rename_i hw
      rw [if_pos (by simpa [Region.wanted, hg] using hw)] at h
      exact h
    · rename_i hw
      rw [if_neg (by simpa [Region.wanted, hg] using hw)] at h
      exact h
end

end Go.Proofs.YtckcadhjpjjmjaaDoor
namespace Go.Proofs.YtckcadhjpjjmjaaDoor
open Go.RowKit

section
variable {P : Program} {ops : Array Oper}

/-- THE LAW. S i: what is known of the value that operation i yields, and goes on to hold; Le: how worlds grow. -/
theorem wp_region_one {Q : Exit → Act → World → Prop} {id : Nat} {a0 : Act} {w0 : World} (hm : P.follows .mixedOrders = true) (n : Nat) (hok : regOk ops n = true)
    (hslots : ((List.range n).all fun i => (dstAt ops i).all fun d => decide (d < a0.tmps.size)) = true)
    (Le : World → World → Prop) (hrefl : ∀ w, Le w w) (htrans : ∀ w w' w'', Le w w' → Le w' w'' → Le w w'')
    (e : Nat) (T : World → Prop) (Lt : World → World → Prop) (hlt : ∀ w w', Lt w w' → Le w w') (hT0 : T w0.drew) (hT : ∀ w w', Lt w w' → T w → T w')
    (S : Nat → Value → World → Prop) (hS : ∀ i v w w', i ≠ e → Le w w' → S i v w → S i v w') (hSe : ∀ v w w', Lt w w' → S e v w → S e v w')
    (hop : ∀ i, i < n → ∀ o, ops[i]? = some o → ∀ (a : Act) (w : World), Le w0.drew w → a.defers = a0.defers → (∀ t, freeSlot ops n t = true → a.tmps.getD t undef = a0.tmps.getD t undef) →
      (∀ j d, (needs ops ops.size i).contains j = true → dstAt ops j = some d → S j (a.tmps.getD d undef) w) →
      (i = e → T w) → ∀ K : Act → World → Prop, (∀ v w', (Lt w w' ∨ i = e ∧ Le w w') → S i v w' → K (a.put o.dst v) w') → if Region.wanted o (yielded ops a.tmps) = true then o.wp P a w K Q else K (a.put o.dst undef) w)
    (hQ : ∀ (vs : Nat → Value) (w : World), Le w0.drew w → (∀ i, i < n → (dstAt ops i).isSome = true → S i (vs i) w) → wpList P ops Q (ops.toList.drop n) (putN ops vs n a0) w) :
    (Code.region id ops true).wp P Q a0 w0 := by
  refine wp_region_any hm ?_
  have hnsz : n ≤ ops.size := by simp only [regOk, Bool.and_eq_true, decide_eq_true_eq] at hok; exact hok.2
  have hslot : ∀ i d, i < n → dstAt ops i = some d → d < a0.tmps.size := by
    intro i d hi hd
    have := List.all_eq_true.1 hslots i (by simpa using hi)
    rw [hd] at this
    simpa using this
  have key : ∀ (fuel : Nat) (l : Array Bool) (a : Act) (w : World), (l.getD e false = false → T w) → l.size = ops.size → cnt l ops.size ≤ fuel → Closed ops l → (∀ i, n ≤ i → i < ops.size → l.getD i false = false) → Le w0.drew w → a.defers = a0.defers → a.tmps.size = a0.tmps.size →
      (∀ t, (∀ i, i < n → l.getD i false = true → dstAt ops i ≠ some t) → a.tmps.getD t undef = a0.tmps.getD t undef) →
      (∀ i d, i < n → l.getD i false = true → dstAt ops i = some d → S i (a.tmps.getD d undef) w) → wpAny P .any ops Q fuel l a w := by
    intro fuel
    -- all of the first n are listed: the tail
    have tail : ∀ (fuel : Nat) (l : Array Bool) (a : Act) (w : World), l.size = ops.size → cnt l ops.size ≤ fuel → (∀ i, n ≤ i → i < ops.size → l.getD i false = false) → (∀ i, i < n → l.getD i false = true) → Le w0.drew w → a.defers = a0.defers → a.tmps.size = a0.tmps.size →
        (∀ t, (∀ i, i < n → l.getD i false = true → dstAt ops i ≠ some t) → a.tmps.getD t undef = a0.tmps.getD t undef) →
        (∀ i d, i < n → l.getD i false = true → dstAt ops i = some d → S i (a.tmps.getD d undef) w) → wpAny P .any ops Q fuel l a w := by
      intro fuel l a w hs hc ht hall hle hd hsz hfree hSi
      have hcn : ∀ m, m ≤ ops.size → n ≤ m → cnt l m = m - n := by
        intro m
        induction m with
        | zero => intro _ h; rw [cnt]; omega
        | succ m ih =>
          intro h1 h2
          rw [cnt]
          by_cases e : n = m + 1
          · have : ∀ q, q ≤ m + 1 → cnt l q = 0 := by
              intro q
              induction q with
              | zero => intro _; rfl
              | succ q ihq => intro hq; rw [cnt, ihq (by omega), if_pos (hall q (by omega))]
            have h3 := this m (by omega)
            rw [h3, if_pos (hall m (by omega))]; omega
          · rw [ih (by omega) (by omega), ht m (by omega) (by omega)]
            simp; omega
      refine wpAny_tail hok fuel n l a w hs (Nat.le_refl _) hnsz (by have := hcn ops.size (Nat.le_refl _) hnsz; omega) (fun i hi => ⟨fun h => ?_, fun h => hall i h⟩) ?_
      · rcases Nat.lt_or_ge i n with h' | h'
        · exact h'
        · rw [ht i h' hi] at h; cases h
      · have ha : a = putN ops (fun i => ((dstAt ops i).map fun d => a.tmps.getD d undef).getD undef) n a0 := by
          have h1 := putN_size (ops := ops) (fun i => ((dstAt ops i).map fun d => a.tmps.getD d undef).getD undef) a0 n
          have ht : a.tmps = (putN ops (fun i => ((dstAt ops i).map fun d => a.tmps.getD d undef).getD undef) n a0).tmps := by
            apply Array.ext
            · rw [h1.1, hsz]
            · intro t ht1 ht2
              have hg : a.tmps.getD t undef = (putN ops (fun i => ((dstAt ops i).map fun d => a.tmps.getD d undef).getD undef) n a0).tmps.getD t undef := by
                by_cases hex : ∃ i, i < n ∧ dstAt ops i = some t
                · obtain ⟨i, hi, hdi⟩ := hex
                  rw [putN_at _ a0 (hsz ▸ ht1) hdi n hi (fun j hj hne hdj => regOk_dst hok hj hi hne hdj hdi)]
                  simp only [hdi, Option.map_some, Option.getD_some]
                · rw [putN_free _ a0 n (fun i hi hdi => hex ⟨i, hi, hdi⟩)]
                  exact hfree t fun i hi _ hdi => hex ⟨i, hi, hdi⟩
              have e1 : ∀ (A : Array Value) (h : t < A.size), A.getD t undef = A[t] := fun A h => by unfold Array.getD; rw [dif_pos h]; rfl
              rw [e1 _ ht1, e1 _ ht2] at hg
              exact hg
          cases a with
          | mk ta da =>
            cases hp : putN ops (fun i => ((dstAt ops i).map fun d => (Act.mk ta da).tmps.getD d undef).getD undef) n a0 with
            | mk tb db =>
              rw [hp] at ht h1
              simp only at ht h1 hd
              rw [ht, hd, h1.2]
        rw [ha]
        refine hQ _ w hle fun i hi hsome => ?_
        obtain ⟨d, hdi⟩ := Option.isSome_iff_exists.1 hsome
        simp only [hdi, Option.map_some, Option.getD_some]
        exact hSi i d hi (hall i hi) hdi
    induction fuel with
    | zero =>
      intro l a w hTl hs hc hcl ht hle hd hsz hfree hSi
      have hz := cnt_zero (l := l) (n := ops.size) (by omega)
      exact tail 0 l a w hs hc ht (fun i hi => hz i (by omega)) hle hd hsz hfree hSi
    | succ fuel ih =>
      intro l a w hTl hs hc hcl ht hle hd hsz hfree hSi
      by_cases hall : ∀ i, i < n → l.getD i false = true
      · exact tail _ l a w hs hc ht hall hle hd hsz hfree hSi
      · refine ⟨fun h0 => absurd ?_ hall, fun i hi => ?_⟩
        · -- nothing is ready: all are listed
          intro i
          induction i using Nat.strongRecOn with
          | _ i ihi =>
            intro hi
            by_cases hb : l.getD i false = true
            · exact hb
            · exfalso
              have hi' : i < ops.size := by omega
              have : i ∈ Region.ready .any ops l := mem_ready.2 ⟨by simp [hs, hi'] at hb ⊢; exact hb, _, Array.getElem?_eq_getElem hi', fun e he hbd => by
                have hlt := regOk_edges hok (Array.getElem?_eq_getElem hi') e he hbd
                exact ihi e.on hlt (by omega)⟩
              rw [h0] at this
              simp at this
        · obtain ⟨h0, o, ho, hallo⟩ := mem_ready.1 hi
          have hi' : i < ops.size := (Array.getElem?_eq_some_iff.1 ho).1
          have h0' : l.getD i false = false := by simp [hs, hi'] at h0 ⊢; exact h0
          have hin : i < n := by
            rcases Nat.lt_or_ge i n with h' | h'
            · exact h'
            · exfalso
              refine hall fun j hj => needs_listed hcl ops.size i o ho hallo j (regOk_tail hok hi' h' (by omega))
          have hneeds := needs_listed hcl ops.size i o ho hallo
          have hdst : dstAt ops i = o.dst := by simp [dstAt, ho]
          have hnext : ∀ v w', (Lt w w' ∨ i = e ∧ Le w w') → S i v w' → wpAny P .any ops Q fuel (l.setIfInBounds i true) (a.put o.dst v) w' := by
            intro v w' hlo hSv
            have hlw : Le w w' := hlo.elim (hlt _ _) And.right
            refine ih _ _ _ (fun hfe => ?_) (by simpa using hs) (by have := cnt_set (by omega) h0' hi'; omega) ?_ ?_ (htrans _ _ _ hle hlw) (by rw [put_defers']; exact hd) (by rw [put_size]; exact hsz) ?_ ?_
            · have hne : i ≠ e := fun h => by
                subst h
                rw [getD_set_same (by omega)] at hfe
                cases hfe
              rw [getD_set_ne false hne] at hfe
              rcases hlo with h | ⟨h, -⟩
              · exact hT _ _ h (hTl hfe)
              · exact absurd h hne
            · intro i' o' ho' hl' e he hb
              by_cases e' : i = i'
              · subst e'
                rw [ho] at ho'
                have := Option.some.inj ho'
                subst this
                exact getD_set_true (hallo e he hb)
              · rw [getD_set_ne false e'] at hl'
                exact getD_set_true (hcl i' o' ho' hl' e he hb)
            · intro j hj hj'
              rw [getD_set_ne false (by omega)]
              exact ht j hj hj'
            · intro t hft
              rw [getD_put_ne]
              · exact hfree t fun j hj hlj => hft j hj (getD_set_true hlj)
              · rw [← hdst]
                exact hft i hin (getD_set_same (by omega) _)
            · intro j d hj hlj hdj
              by_cases eij : i = j
              · subst eij
                rw [← hdst, hdj, getD_put_same (by rw [hsz]; exact hslot i d hin hdj)]
                exact hSv
              · rw [getD_set_ne false eij] at hlj
                rw [getD_put_ne]
                · by_cases hje : j = e
                  · subst hje
                    rcases hlo with h | ⟨h, -⟩
                    · exact hSe _ w w' h (hSi j d hj hlj hdj)
                    · exact absurd h eij
                  · exact hS j _ w w' hje hlw (hSi j d hj hlj hdj)
                · rw [← hdst]
                  exact fun h => regOk_dst hok hin hj eij h hdj
          have := hop i hin o ho a w hle hd (fun t hft => hfree t fun j hj _ hdj => by
              simp only [freeSlot, List.all_eq_true, List.mem_range, bne_iff_ne] at hft
              exact hft j hj hdj)
            (fun j d hj hdj => by
              have hjm : j ∈ needs ops ops.size i := by simpa using hj
              have hlj := hneeds j hjm
              have hjn : j < n := by
                rcases Nat.lt_or_ge j n with h' | h'
                · exact h'
                · exfalso
                  rcases Nat.lt_or_ge j ops.size with h'' | h''
                  · rw [ht j h' h''] at hlj; cases hlj
                  · simp [dstAt, Array.getElem?_eq_none h''] at hdj
              exact hSi j d hjn hlj hdj)
            (fun h => hTl (h ▸ h0')) (wpAny P .any ops Q fuel (l.setIfInBounds i true)) hnext
          unfold wpOp
          rw [ho]
          simp only
          split
          · rename_i hw; rw [if_pos hw] at this; exact .inl this
          · rename_i hw; rw [if_neg hw] at this; exact this
  refine key ops.size _ a0 w0.drew (fun _ => hT0) (by simp) ?_ ?_ ?_ (hrefl _) rfl rfl (fun _ _ => rfl) ?_
  · have : ∀ (l : Array Bool) m, cnt l m ≤ m := by
      intro l m
      induction m with
      | zero => exact Nat.le_refl _
      | succ m ih => rw [cnt]; split <;> omega
    exact this _ _
  · intro i o ho hl
    have hi : i < ops.size := (Array.getElem?_eq_some_iff.1 ho).1
    simp [hi] at hl
  · intro i _ hi
    simp [hi]
  · intro i d hi hl
    have : i < ops.size := by omega
    simp [this] at hl

theorem grownBy_refl (w : World) (o : Option Nat) : w.grownBy w o := ⟨rfl, rfl, rfl, Nat.le_refl _, fun _ _ _ => rfl⟩
theorem grownBy_trans {w w' w'' : World} {o : Option Nat} (h : w.grownBy w' o) (k : w'.grownBy w'' o) : w.grownBy w'' o :=
  ⟨k.os.trans h.os, k.tape.trans h.tape, k.output.trans h.output, Nat.le_trans h.size k.size, fun i hi hn => (k.block i (Nat.lt_of_lt_of_le hi h.size) hn).trans (h.block i hi hn)⟩
theorem grownBy_ext {w w' : World} {o : Option Nat} (h : Ext w w') : w.grownBy w' o := ⟨h.os, h.tape, h.output, h.size, fun i hi _ => h.block i hi⟩

def Hop1 (P : Program) (ops : Array Oper) (n : Nat) (a0 : Act) (w0 : World) (b : Option Nat) (e : Nat) (T : World → Prop) (S : Nat → Value → World → Prop) (Q : Exit → Act → World → Prop) (i : Nat) (o : Oper) : Prop :=
  ∀ (a : Act) (w : World), w0.grownBy w b → a.defers = a0.defers → (∀ t, freeSlot ops n t = true → a.eval (.tmp t) = a0.eval (.tmp t)) →
    (∀ j d, (needs ops ops.size i).contains j = true → dstAt ops j = some d → S j (a.eval (.tmp d)) w) → (i = e → T w) →
    ∀ K : Act → World → Prop, (∀ v w', (Ext w w' ∨ i = e ∧ w.grownBy w' b) → S i v w' → K (a.put o.dst v) w') →
      match o.guard with
      | none => o.wp P a w K Q
      | some (j, want) => if yielded ops a.tmps j = some want then o.wp P a w K Q else K (a.put o.dst undef) w
def Hops1 (P : Program) (ops : Array Oper) (n : Nat) (a0 : Act) (w0 : World) (b : Option Nat) (e : Nat) (T : World → Prop) (S : Nat → Value → World → Prop) (Q : Exit → Act → World → Prop) : List Oper → Nat → Prop
  | [], _ => True
  | o :: r, i => Hop1 P ops n a0 w0 b e T S Q i o ∧ Hops1 P ops n a0 w0 b e T S Q r (i + 1)
theorem hops1_at {n : Nat} {a0 : Act} {w0 : World} {b : Option Nat} {e : Nat} {T : World → Prop} {S : Nat → Value → World → Prop} {Q : Exit → Act → World → Prop} : ∀ (l : List Oper) (k i : Nat) (o : Oper), Hops1 P ops n a0 w0 b e T S Q l k → l[i]? = some o → Hop1 P ops n a0 w0 b e T S Q (k + i) o
  | [], _, i, o, _, hi => by simp at hi
  | x :: l, k, 0, o, h, hi => by simp at hi; subst hi; exact h.1
  | x :: l, k, i + 1, o, h, hi => by
    have := hops1_at l (k + 1) i o h.2 (by simpa using hi)
    rw [show k + (i + 1) = k + 1 + i from by omega]
    exact this
/-- b: the block that operation e may change; T: what holds until e is done. -/
theorem wp_region_own {Q : Exit → Act → World → Prop} {id : Nat} {a0 : Act} {w0 : World} (hm : P.follows .mixedOrders = true) (n : Nat) (b : Option Nat) (e : Nat) (T : World → Prop) (S : Nat → Value → World → Prop) (hok : regOk ops n = true)
    (hslots : ((List.range n).all fun i => (dstAt ops i).all fun d => decide (d < a0.tmps.size)) = true) (hT0 : T w0) (hT : ∀ w w', Ext w w' → T w → T w')
    (hS : ∀ i v w w', i ≠ e → w.grownBy w' b → S i v w → S i v w') (hSe : ∀ v w w', Ext w w' → S e v w → S e v w') (hop : Hops1 P ops n a0 w0 b e T S Q (ops.toList.take n) 0)
    (hQ : ∀ (vs : Nat → Value) (w : World), w0.grownBy w b → (∀ i, i < n → (dstAt ops i).isSome = true → S i (vs i) w) → wpList P ops Q (ops.toList.drop n) (putN ops vs n a0) w) :
    (Code.region id ops true).wp P Q a0 w0 := by
  refine wp_region_one hm n hok hslots (fun w w' => w.grownBy w' b) (fun w => grownBy_refl w b) (fun _ _ _ => grownBy_trans) e T Ext (fun _ _ => grownBy_ext) (hT _ _ (Ext.drew _) hT0) hT S hS hSe (fun i hi o ho a w hle hd hf hs hTi K hK => ?_) (fun vs w hle => hQ vs w (grownBy_trans (grownBy_ext (Ext.drew _)) hle))
  have h := hops1_at _ 0 i o hop (by rw [List.getElem?_take, if_pos hi]; simpa using ho)
  rw [Nat.zero_add] at h
  have h := h a w (grownBy_trans (grownBy_ext (Ext.drew _)) hle) hd hf hs hTi K hK
  cases hg : o.guard with
  | none =>
    rw [hg] at h
    rw [if_pos (by simp [Region.wanted, hg])]
    exact h
  | some jw =>
    obtain ⟨j, want⟩ := jw
    rw [hg] at h
    simp only at h
    split
    · rename_i hw
      rw [if_pos (by simpa [Region.wanted, hg] using hw)] at h
      exact h
    · rename_i hw
      rw [if_neg (by simpa [Region.wanted, hg] using hw)] at h
      exact h
end
end Go.Proofs.YtckcadhjpjjmjaaDoor
namespace Go.Proofs.YtckcadhjpjjmjaaDoor
open Go.RowKit
section
variable {ops : Array Oper}
def edgeB (ops : Array Oper) (i j : Nat) : Bool := ((ops[i]?).map fun o => o.after.toList.any fun e => Region.binds .any e && e.on == j).getD false
theorem edgeB_iff {i j : Nat} : edgeB ops i j = true ↔ ∃ o, ops[i]? = some o ∧ ∃ e ∈ o.after.toList, Region.binds .any e = true ∧ e.on = j := by
  unfold edgeB
  cases ho : ops[i]? with
  | none => simp
  | some o =>
    simp only [Option.map_some, Option.getD_some, List.any_eq_true, Bool.and_eq_true, beq_iff_eq]
    exact ⟨fun ⟨e, he, h⟩ => ⟨o, rfl, e, he, h⟩, fun ⟨o', ho', e, he, h⟩ => by cases ho'; exact ⟨e, he, h⟩⟩
theorem needs_one {i j : Nat} (h : edgeB ops i j = true) (f : Nat) : j ∈ needs ops (f + 1) i := by
  obtain ⟨o, ho, e, he, hb, rfl⟩ := edgeB_iff.1 h
  rw [needs, ho]
  simp only [List.mem_flatMap, List.mem_filter]
  exact ⟨e, ⟨he, hb⟩, by simp⟩
theorem needs_cons {i j f : Nat} (h : j ∈ needs ops (f + 1) i) : ∃ l, edgeB ops i l = true ∧ (j = l ∨ j ∈ needs ops f l) := by
  rw [needs] at h
  cases ho : ops[i]? with
  | none => rw [ho] at h; simp at h
  | some o =>
    rw [ho] at h
    simp only [List.mem_flatMap, List.mem_filter, List.mem_cons] at h
    obtain ⟨e, ⟨he, hb⟩, h⟩ := h
    exact ⟨e.on, edgeB_iff.2 ⟨o, ho, e, he, hb, rfl⟩, h⟩
theorem needs_step {i j l f : Nat} (h1 : edgeB ops i l = true) (h : j ∈ needs ops f l) : j ∈ needs ops (f + 1) i := by
  obtain ⟨o, ho, e, he, hb, rfl⟩ := edgeB_iff.1 h1
  rw [needs, ho]
  simp only [List.mem_flatMap, List.mem_filter, List.mem_cons]
  exact ⟨e, ⟨he, hb⟩, .inr h⟩
theorem needs_more : ∀ {f i j : Nat}, j ∈ needs ops f i → j ∈ needs ops (f + 1) i
  | 0, i, j, h => by simp [needs] at h
  | f + 1, i, j, h => by
    obtain ⟨l, h1, h2⟩ := needs_cons h
    rcases h2 with rfl | h2
    · exact needs_one h1 _
    · exact needs_step h1 (needs_more h2)
theorem needs_le {f g i j : Nat} (h : j ∈ needs ops f i) (hg : f ≤ g) : j ∈ needs ops g i := by
  obtain ⟨d, rfl⟩ : ∃ d, g = f + d := ⟨g - f, by omega⟩
  clear hg
  induction d with
  | zero => exact h
  | succ d ih => exact needs_more ih
theorem needs_snoc : ∀ {f i j l : Nat}, j ∈ needs ops f i → edgeB ops j l = true → l ∈ needs ops (f + 1) i
  | 0, i, j, l, h, _ => by simp [needs] at h
  | f + 1, i, j, l, h, he => by
    obtain ⟨k, h1, h2⟩ := needs_cons h
    rcases h2 with rfl | h2
    · exact needs_step h1 (needs_one he _)
    · exact needs_step h1 (needs_snoc h2 he)
/-- What lies ahead of operation i: from j on down. -/
def reach (ops : Array Oper) (i : Nat) : Nat → List Nat → List Nat
  | 0, acc => acc
  | j + 1, acc => reach ops i j (if acc.any (fun l => edgeB ops l j) then j :: acc else acc)
theorem reach_sound (hd : ∀ i j, edgeB ops i j = true → j < i) (i : Nat) : ∀ (k : Nat) (acc : List Nat), (∀ l ∈ acc, l = i ∨ (l < i ∧ l ∈ needs ops (i - l) i)) → ∀ l ∈ reach ops i k acc, l = i ∨ (l < i ∧ l ∈ needs ops (i - l) i)
  | 0, acc, h => h
  | j + 1, acc, h => by
    rw [reach]
    refine reach_sound hd i j _ ?_
    split
    · rename_i ha
      obtain ⟨l, hl, he⟩ := List.any_eq_true.1 ha
      intro q hq
      rcases List.mem_cons.1 hq with rfl | hq
      · have hjl := hd l q he
        rcases h l hl with rfl | ⟨h1, h2⟩
        · exact .inr ⟨hjl, needs_le (needs_one he 0) (by omega)⟩
        · exact .inr ⟨by omega, needs_le (needs_snoc h2 he) (by omega)⟩
      · exact h q hq
    · exact h
def regOk3 (ops : Array Oper) (n : Nat) : Bool :=
  (List.range ops.size).all (fun i => ((ops[i]?).map fun o => o.after.all fun e => !Region.binds .any e || decide (e.on < i)).getD true) &&
  (List.range ops.size).all (fun i => (List.range i).all fun j => match dstAt ops i, dstAt ops j with | some d, some e => d != e || decide (n ≤ i) | _, _ => true) &&
  (List.range ops.size).all (fun i => decide (i < n) || (fun l => (List.range i).all fun j => l.contains j) (reach ops i i [i])) && decide (n ≤ ops.size)
theorem regOk_of {n : Nat} (h : regOk3 ops n = true) : regOk ops n = true := by
  simp only [regOk3, Bool.and_eq_true] at h
  obtain ⟨⟨⟨h1, h2⟩, h3⟩, h4⟩ := h
  simp only [regOk, Bool.and_eq_true]
  refine ⟨⟨⟨h1, h2⟩, ?_⟩, h4⟩
  have hd : ∀ i j, edgeB ops i j = true → j < i := by
    intro i j he
    obtain ⟨o, ho, e, hm, hb, rfl⟩ := edgeB_iff.1 he
    have hi : i < ops.size := (Array.getElem?_eq_some_iff.1 ho).1
    have h' := List.all_eq_true.1 h1 i (by simpa using hi)
    rw [ho] at h'
    simp only [Option.map_some, Option.getD_some, Array.all_eq_true_iff_forall_mem, Bool.or_eq_true, decide_eq_true_eq] at h'
    rcases h' e (by simpa using hm) with h'' | h''
    · simp [hb] at h''
    · exact h''
  simp only [List.all_eq_true, List.mem_range, Bool.or_eq_true, decide_eq_true_eq] at h3 ⊢
  intro i hi
  rcases h3 i hi with h' | h'
  · exact .inl h'
  · refine .inr fun j hj => ?_
    have hm : j ∈ reach ops i i [i] := by simpa using h' j hj
    rcases reach_sound hd i i [i] (fun l hl => .inl (by simpa using hl)) j hm with rfl | ⟨-, hn⟩
    · omega
    · simpa using needs_le hn (show i - j ≤ ops.size by omega)
end
end Go.Proofs.YtckcadhjpjjmjaaDoor
namespace Go.Proofs.YtckcadhjpjjmjaaDoor
open Go.RowKit
theorem mixed : Tryd.prog.follows .mixedOrders = true := by kernel_rfl
theorem needs_direct {ops : Array Oper} {i j : Nat} (h : ((ops[i]?).map fun o => o.after.toList.any fun e => Region.binds .any e && e.on == j) = some true) : (needs ops ops.size i).contains j = true := by
  cases ho : ops[i]? with
  | none => rw [ho] at h; cases h
  | some o =>
    rw [ho] at h
    simp only [Option.map_some, Option.some.injEq, List.any_eq_true, Bool.and_eq_true, beq_iff_eq] at h
    obtain ⟨e, he, h1, h2⟩ := h
    have hi : i < ops.size := (Array.getElem?_eq_some_iff.1 ho).1
    obtain ⟨f, hf⟩ : ∃ f, ops.size = f + 1 := ⟨ops.size - 1, by omega⟩
    rw [hf, needs, ho]
    simp only [List.contains_iff_mem, List.mem_flatMap, List.mem_filter]
    exact ⟨e, ⟨he, h1⟩, by simp [h2]⟩
end Go.Proofs.YtckcadhjpjjmjaaDoor
namespace Go.Proofs.YtckcadhjpjjmjaaDoor
open Go.RowKit
theorem txt_app2 (a b : List UInt8) : txt a ++ txt b = txt (a ++ b) := by
  apply ByteArray.ext
  rw [ByteArray.data_append]
  simp
theorem join_snoc (c : UInt8) (x : List UInt8) : ∀ l : List (List UInt8), l ≠ [] → Lib.join (l ++ [x]) [c] = Lib.join l [c] ++ c :: x
  | [], h => absurd rfl h
  | a :: r, _ => by
    rw [List.cons_append, Lib.join_cons, Lib.join_cons, Lib.joinTail, Lib.joinTail, List.map_append, List.flatten_append, ← List.append_assoc]
    simp
theorem join_take (c : UInt8) (l : List (List UInt8)) : ∀ k, (Lib.join (l.take k) [c]).length ≤ (Lib.join l [c]).length
  | 0 => Nat.zero_le _
  | k + 1 => by
    cases l with
    | nil => simp
    | cons a r =>
      rw [List.take_succ_cons, Lib.join_cons, Lib.join_cons, List.length_append, List.length_append]
      have : ∀ (r : List (List UInt8)) k, (Lib.joinTail [c] (r.take k)).length ≤ (Lib.joinTail [c] r).length := by
        intro r
        induction r with
        | nil => intro k; simp
        | cons b r ih =>
          intro k
          cases k with
          | zero => exact Nat.zero_le _
          | succ k =>
            have := ih k
            simp only [Lib.joinTail, List.take_succ_cons, List.map_cons, List.flatten_cons, List.length_append] at this ⊢
            omega
      have := this r k
      omega
set_option maxRecDepth 100000 in
set_option maxHeartbeats 1600000 in
theorem c_rfjoin (A : Option Addr) (n c : Nat) (l : List (List UInt8)) (ok : Nat → Prop) (w : World) (hR : kStr.Row ok w A n c (l.map txt)) (hj : (Lib.join l [44]).length ≤ 1000000) :
    Calls Tryd.prog 14 #[.slice A n c] w fun e w' => e = .returned (.string (txt (joinB geS l))) ∧ w' = w := by
  have hl : l.length = n := by rw [← hR.1, List.length_map]
  cases hb : riseB geS l with
  | false =>
    have HE : Hid (joinB geS l = []) := hide (by rw [joinB, hb]; rfl)
    have HB := hide hb
    have HR := hide hR
    clear hR hb
    go_enter Tryd.func14, Tryd.ntmps14
    go_wp2_with fail
    refine (c_rise l A n c ok w HR.out).mono ?_
    rintro e w1 ⟨rfl, rfl⟩
    rw [HB.out]
    go_wp2_with fail
    go_ret
    exact ⟨by rw [HE.out]; rfl, rfl⟩
  | true =>
    have hn32 : 1 ≤ n ∧ n ≤ 32 := by
      simp only [riseB, Bool.and_eq_true, decide_eq_true_eq] at hb
      omega
    obtain ⟨hn1, hn2⟩ := hn32
    have HE : Hid (joinB geS l = Lib.join l [44]) := hide (by rw [joinB, hb]; rfl)
    have HB := hide hb
    obtain ⟨x, hx⟩ : ∃ x, l[0]? = some x := ⟨_, List.getElem?_eq_getElem (by omega)⟩
    have hx2 : (l.map txt)[0]? = some (txt x) := by rw [List.getElem?_map, hx]; rfl
    obtain ⟨p, o, hix, hcx, -, -⟩ := row_str hR hx2
    have hix0 : ∀ wx : World, (Instr.indexAt 22 (.slice A n c) (.int .i64 0)).run Tryd.prog wx = .ok (.pointer (some ⟨p, o, none⟩)) wx := hix
    obtain ⟨B, hs1, hB⟩ := hR.from (P := Tryd.prog) Tryd.underlying22 (E := 9) str_info (k := 1) (by omega) .i64 1 rfl
    have H0 : Hid (Lib.join (l.take 1) [44] = x) := hide (by
      cases l with
      | nil => cases hx
      | cons a r =>
        have : a = x := by simpa using hx
        rw [this, List.take_succ_cons, List.take_zero, Lib.join_one])
    have HR := hide hR
    have HRB := hide hB
    have HL := hide hl
    have HJ := hide hj
    clear hR hb hB hl hj hx hx2 hix
    go_enter Tryd.func14, Tryd.ntmps14
    go_wp2_with fail
    refine (c_rise l A n c ok w HR.out).mono ?_
    rintro e w1 ⟨rfl, rfl⟩
    rw [HB.out]
    go_wp2_with fail
    go_loop [3, 15] (fun s i => ∃ (k : Nat) (q : List UInt8), k ≤ n - 1 ∧ i = .int .i64 (k : Int) ∧ s = .string (txt q) ∧ Hid (q = Lib.join (l.take (k + 1)) [44])) (fun _ i => n - 1 - (intOf i).toNat)
    case atStart => exact ⟨0, x, Nat.zero_le _, rfl, rfl, hide H0.out.symm⟩
    case round =>
      obtain ⟨k, q, hk, rfl, rfl, HT⟩ := hrel
      by_cases hlt : k < n - 1
      · obtain ⟨y, hy⟩ : ∃ y, l[k + 1]? = some y := ⟨_, List.getElem?_eq_getElem (by have := HL.out; omega)⟩
        have hy2 : ((l.map txt).drop 1)[k]? = some (txt y) := by rw [List.getElem?_drop, List.getElem?_map, Nat.add_comm, hy]; rfl
        obtain ⟨p2, o2, hiy, hcy, -, -⟩ := row_str HRB.out hy2
        have HQ : Hid (q ++ 44 :: y = Lib.join (l.take (k + 1 + 1)) [44]) := hide (by
          rw [List.take_add_one (i := k + 1), hy, HT.out]
          exact (join_snoc 44 y _ (by intro e; have h1 := congrArg List.length e; rw [List.length_take, List.length_nil] at h1; have h2 := HL.out; omega)).symm)
        have HQL : Hid ((q ++ 44 :: y).length ≤ 1000000) := hide (by rw [HQ.out]; exact Nat.le_trans (join_take 44 l _) HJ.out)
        have hs1y : ¬ 9223372036854775807 < 1 + y.length := by have := HQL.out; simp only [List.length_append, List.length_cons] at this; omega
        have hs2y : ¬ 9223372036854775807 < q.length + (1 + y.length) := by have := HQL.out; simp only [List.length_append, List.length_cons] at this; omega
        clear hy hy2
        go_wp2_with fail
        go_round
        case rel => exact ⟨k + 1, q ++ 44 :: y, by omega, by simp, by rw [show ({ data := #[44] } : ByteArray) = txt [44] from rfl, txt_app2, txt_app2]; rfl, HQ⟩
        case measure => simp [intOf]; omega
      · obtain rfl : k = n - 1 := by omega
        have HR9 : Hid (q = Lib.join l [44]) := hide (by rw [HT.out, List.take_of_length_le (by have := HL.out; omega)])
        go_wp2_with fail
        go_ret
        exact ⟨by rw [HE.out, ← HR9.out]; rfl, rfl⟩
set_option maxRecDepth 100000 in
set_option maxHeartbeats 1600000 in
theorem c_rfsame (A B : Option Addr) (n c m d : Nat) (xs ys : List ByteArray) (ok ok' : Nat → Prop) (w : World) (hR : kStr.Row ok w A n c xs) (hS : kStr.Row ok' w B m d ys) :
    Calls Tryd.prog 15 #[.slice A n c, .slice B m d] w fun e w' => e = .returned (.bool (decide (xs = ys))) ∧ Below w.heap.size w w' := by
  have hl := hR.1
  have hm := hS.1
  have hn63 : n ≤ 9223372036854775807 := Nat.le_trans hR.2.1 hR.2.2.1
  have hm63 : m ≤ 9223372036854775807 := Nat.le_trans hS.2.1 hS.2.2.1
  by_cases hnm : n = m
  · subst hnm
    have HL := hide hl
    have HM := hide hm
    have HR := hide hR
    have HS := hide hS
    clear hR hS hl hm
    go_enter Tryd.func15, Tryd.ntmps15
    go_wp2_with fail
    go_loopw [13] (fun i wr => ∃ k : Nat, k ≤ n ∧ i = .int .i64 (k : Int) ∧ Hid (xs.take k = ys.take k) ∧ Hid (Below w.heap.size w wr)) (fun i _ => n - (intOf i).toNat)
    case atStart => exact ⟨0, Nat.zero_le _, rfl, hide rfl, hide (Below.refl _ _)⟩
    case round =>
      obtain ⟨k, hk, rfl, HT, HB⟩ := hrel
      by_cases hlt : k < n
      · obtain ⟨x, hx⟩ : ∃ x, xs[k]? = some x := ⟨_, List.getElem?_eq_getElem (by have := HL.out; omega)⟩
        obtain ⟨y, hy⟩ : ∃ y, ys[k]? = some y := ⟨_, List.getElem?_eq_getElem (by have := HM.out; omega)⟩
        obtain ⟨p, o, hix, hcx, -, -⟩ := row_str (HR.out.below HB.out) hx
        obtain ⟨p2, o2, hiy, hcy, -, -⟩ := row_str (HS.out.below HB.out) hy
        have HIX := hide hix
        have HIY := hide hiy
        have HCX := hide hcx
        have HCY := hide hcy
        have HEQ : Hid ((!(x.toList == y.toList)) = decide (¬ x = y)) := hide (by
          rw [Bool.eq_iff_iff]
          simp only [Bool.not_eq_true', beq_eq_false_iff_ne, decide_eq_true_eq, ne_eq]
          rw [ByteArray.toList_eq, ByteArray.toList_eq]
          exact not_congr ⟨fun h => by rw [← txt_byt x, ← txt_byt y]; exact congrArg txt h, fun h => by rw [h]⟩)
        have HNX : Hid (¬ x = y → decide (xs = ys) = false) := hide (fun h => decide_eq_false (fun e => h (by rw [e, hy] at hx; exact (Option.some.inj hx).symm)))
        have HTX : Hid (x = y → xs.take (k + 1) = ys.take (k + 1)) := hide (fun h => by rw [List.take_add_one, List.take_add_one, HT.out, hx, hy, h])
        clear hx hy hix hiy hcx hcy
        go_wp2_with fail
        refine wp_region_ext mixed 9 (fun i v w' => match i with
          | 0 => v = .slice A n c
          | 1 => v = .int .i64 (k : Int)
          | 2 => v = .pointer (some ⟨p, o, none⟩)
          | 3 => v = .string x
          | 4 => v = .slice B n d
          | 5 => v = .int .i64 (k : Int)
          | 6 => v = .pointer (some ⟨p2, o2, none⟩)
          | 7 => v = .string y
          | _ => v = .bool !(x.toList == y.toList)
          ) (regOk_of (by kernel_rfl)) rfl ?_ ?_ ?_
        · intro i v w1 w2 h1 h2
          split at h2 <;> exact h2
        · refine ⟨fun a w2 hle hd hf hs K hK => ?_, fun a w2 hle hd hf hs K hK => ?_, fun a w2 hle hd hf hs K hK => ?_, fun a w2 hle hd hf hs K hK => ?_, fun a w2 hle hd hf hs K hK => ?_, fun a w2 hle hd hf hs K hK => ?_, fun a w2 hle hd hf hs K hK => ?_, fun a w2 hle hd hf hs K hK => ?_, fun a w2 hle hd hf hs K hK => ?_, trivial⟩
          all_goals clear hd
          · -- 16 := Op.move t0
            have e0 := hf 0 rfl; simp [Act.eval] at e0
            go_simp; exact hK _ _ (Ext.refl _) rfl
          · -- 17 := Op.move t5
            have e5 := hf 5 rfl; simp [Act.eval] at e5
            go_simp; exact hK _ _ (Ext.refl _) rfl
          · -- 18 := Op.indexAddr 22 t16 t17
            have e16 := hs 0 16 (needs_direct (by kernel_rfl)) rfl; have e17 := hs 1 17 (needs_direct (by kernel_rfl)) rfl; simp [Act.eval] at e16 e17
            have hix := HIX.out
            go_simp; exact hK _ _ (Ext.refl _) rfl
          · -- 19 := Op.load 9 t18
            have e18 := hs 2 18 (needs_direct (by kernel_rfl)) rfl; simp [Act.eval] at e18
            have hq := hle.cell HCX.out
            go_simp; exact hK _ _ (Ext.refl _) rfl
          · -- 20 := Op.move t1
            have e1 := hf 1 rfl; simp [Act.eval] at e1
            go_simp; exact hK _ _ (Ext.refl _) rfl
          · -- 21 := Op.move t5
            have e5 := hf 5 rfl; simp [Act.eval] at e5
            go_simp; exact hK _ _ (Ext.refl _) rfl
          · -- 22 := Op.indexAddr 22 t20 t21
            have e20 := hs 4 20 (needs_direct (by kernel_rfl)) rfl; have e21 := hs 5 21 (needs_direct (by kernel_rfl)) rfl; simp [Act.eval] at e20 e21
            have hiy := HIY.out
            go_simp; exact hK _ _ (Ext.refl _) rfl
          · -- 23 := Op.load 9 t22
            have e22 := hs 6 22 (needs_direct (by kernel_rfl)) rfl; simp [Act.eval] at e22
            have hq := hle.cell HCY.out
            go_simp; exact hK _ _ (Ext.refl _) rfl
          · -- 24 := Op.binOp BinOp.neq 9 t19 t23 9
            have e19 := hs 3 19 (needs_direct (by kernel_rfl)) rfl; have e23 := hs 7 23 (needs_direct (by kernel_rfl)) rfl; simp [Act.eval] at e19 e23
            go_simp; exact hK _ _ (Ext.refl _) rfl
        intro vs w8 hle hs
        have v8 := hs 8 (by omega) rfl
        simp only at v8
        clear hs
        rw [HEQ.out] at v8
        have HB8 := hide (HB.out.trans (hle.mono HB.out.size))
        clear hle
        simp only [putN, dstAt]
        by_cases hxy : x = y
        · have HT2 := hide (HTX.out hxy)
          rw [decide_eq_false (not_not_intro hxy)] at v8
          clear hxy
          go_simp
          go_wp2_with fail
          go_roundw
          case rel => exact ⟨k + 1, by omega, by simp, HT2, HB8⟩
          case measure => simp [intOf]; omega
        · have HE := hide (HNX.out hxy)
          rw [decide_eq_true hxy] at v8
          clear hxy
          go_simp
          go_wp2_with fail
          go_ret
          exact ⟨by rw [HE.out]; rfl, HB8.out⟩
      · obtain rfl : k = n := by omega
        have HE : Hid (decide (xs = ys) = true) := hide (decide_eq_true (by
          have := HT.out
          rwa [List.take_of_length_le (Nat.le_of_eq HL.out), List.take_of_length_le (Nat.le_of_eq HM.out)] at this))
        go_wp2_with fail
        go_ret
        exact ⟨by rw [HE.out]; rfl, HB.out⟩
  · have hnm' : ¬ (n : Int) = (m : Int) := by omega
    have HE : Hid (decide (xs = ys) = false) := hide (decide_eq_false (fun e => hnm (by rw [← hl, ← hm, e])))
    clear hR hS hl hm
    go_enter Tryd.func15, Tryd.ntmps15
    go_wp2_with fail
    go_ret
    exact ⟨by rw [HE.out]; rfl, Below.refl _ _⟩
end Go.Proofs.YtckcadhjpjjmjaaDoor
namespace Go.Proofs.YtckcadhjpjjmjaaDoor
open Go.RowKit Go.Shelf
attribute [local go_sem] Oper.semAt_some
/-- append, inside a fence. -/
theorem wpListIn_app {α : Type} {d : Kd α} {ok : Nat → Prop} {base : Nat} {w : World} {E : TypeId} {v : Value} {xs ys : List α} {A : Option Addr} {m : Nat} {F : Fence} {n : Nat} {P : Program} {ops : Array Oper} {rest : List Oper} {op : Oper} {a : Act} {Q : Exit → Act → World → Prop} (hgd : op.guard = none) (s x : Operand) (T : TypeId)
    (ho : op.op = .call { callee := .builtin .append, args := #[s, x], argTypes := #[T, T] }) {z : Value} {bytes : Nat} (hT : P.underlying T = some (.slice E)) (hinfo : (P.info? E).map (fun i => (i.zero, i.size, i.bytes)) = some (some z, d.sz, bytes))
    (hz : z.cells.size = d.sz) (hsz : 0 < d.sz) (cy : Nat) (hs : a.eval s = v) (hx : a.eval x = .slice A m cy) (h : d.App ok base w E v xs) (hsrc : d.Src (fun k => ok k ∧ some k ≠ v.ownBlock) w A m ys) (hbase : base ≤ w.heap.size)
    (h63 : xs.length + m ≤ maxLen) (hbytes : (xs.length + m) * bytes ≤ 140737488355328)
    (k : ∀ v' w', (0 < m ∨ d.Own ok base w E v xs → d.Own ok base w' E v' (xs ++ ys)) → Below base w w' → (∀ k, k < w.heap.size → some k ≠ v.ownBlock → w'.heap[k]? = w.heap[k]?) → wpListIn F n P ops Q rest (a.put op.dst v') w') :
    wpListIn F n P ops Q (op :: rest) a w := by
  refine wpListIn_plain hgd fun K hK => ?_
  obtain ⟨v', w', hrun, _, h2, h3, h4, _⟩ := h.append (P := P) (T := T) (ty := op.type) hT hinfo hz hsz hsrc hbase cy h63 hbytes
  unfold Oper.wpIn
  refine ⟨?_, ?_⟩
  · simp [Oper.about, ho, resolve, Target.leads, Sem.run_pure]
  · rw [Oper.semAt_plain F _ _ (by rw [ho]; intro c hc'; cases hc')]
    simp [execOp, ho, resolve, invoke, builtin, hs, hx, hrun, Result.andThen]
    exact hK _ _ (k v' w' h2 h3 h4)
theorem Kd.Own.upto {α : Type} {d : Kd α} {ok : Nat → Prop} {base : Nat} {w : World} {E : TypeId} {A : Option Addr} {n c : Nat} {xs : List α} (h : d.Own ok base w E (.slice A n c) xs) (k : Nat) (hk : k < n) : d.Own ok base w E (.slice A k c) (xs.take k) := by
  obtain ⟨css, he, hl, ho⟩ := h
  rcases ho with ⟨h1, h2⟩ | ⟨g, cap, cur, h1, h2, h3, h4, h5, h6, h7⟩
  · exfalso; cases h1; omega
  · obtain ⟨rfl, hn, rfl⟩ := Value.slice.inj h1
    have hc : css.length = xs.length := he.1
    have hls := he.lens
    have hm1 : k * d.sz ≤ xs.length * d.sz := Nat.mul_le_mul_right _ (by omega)
    have hkl : (xs.take k).length = k := by rw [List.length_take, Nat.min_eq_left (by omega)]
    have htk : (css.take k).flatten = css.flatten.take (k * d.sz) := by
      have e : css.flatten = (css.take k).flatten ++ (css.drop k).flatten := by rw [← List.flatten_append, List.take_append_drop]
      rw [e, List.take_left']
      rw [flat_len (fun cs h => hls cs (List.mem_of_mem_take h)), List.length_take, Nat.min_eq_left (by omega)]
    refine ⟨css.take k, ⟨by rw [List.length_take, List.length_take, hc], fun i x cs hx hcs => ?_⟩, ?_, ?_⟩
    · rw [List.getElem?_take] at hx hcs
      split at hx
      · exact he.2 i x cs hx (by rwa [if_pos (by assumption)] at hcs)
      · cases hx
    · rw [htk, List.length_take, hl, hkl, Nat.min_eq_left hm1]
    · refine .inr ⟨g, c, cur, by rw [hkl], h2, h3, by rw [hkl]; omega, h5, h6, ?_⟩
      rw [htk, ← h7, List.take_take, hkl, Nat.min_eq_left hm1]
/-- A path's names, one name more. -/
def stepP (l : List (List UInt8)) (w : List UInt8) : Option (List (List UInt8)) :=
  if w = [] ∨ w = [46] then some l else if w = [46, 46] ∧ 0 < l.length then some (l.take (l.length - 1)) else if nmP w = true then some (l ++ [w]) else none
def foldP : List (List UInt8) → List (List UInt8) → Option (List (List UInt8))
  | l, [] => some l
  | l, w :: ws => (stepP l w).bind fun m => foldP m ws
theorem foldP_append : ∀ (l a b), foldP l (a ++ b) = (foldP l a).bind fun m => foldP m b
  | l, [], b => rfl
  | l, w :: a, b => by
    rw [List.cons_append, foldP, foldP]
    cases stepP l w with
    | none => rfl
    | some m => exact foldP_append m a b
theorem stepP_len {l m : List (List UInt8)} {w : List UInt8} (h : stepP l w = some m) : m.length ≤ l.length + 1 := by
  unfold stepP at h
  split at h
  · cases h; omega
  · split at h
    · cases h; rw [List.length_take]; omega
    · split at h
      · cases h; simp
      · cases h
theorem foldP_len : ∀ {l ws m : List (List UInt8)}, foldP l ws = some m → m.length ≤ l.length + ws.length
  | l, [], m, h => by cases h; simp
  | l, w :: ws, m, h => by
    rw [foldP] at h
    cases hs : stepP l w with
    | none => rw [hs] at h; cases h
    | some k =>
      rw [hs] at h
      have h1 := stepP_len hs
      have h2 := foldP_len (show foldP k ws = some m from h)
      rw [List.length_cons]; omega
theorem stepP_nm {l m : List (List UInt8)} {w : List UInt8} (h : stepP l w = some m) (hl : ∀ x ∈ l, nmP x = true) : ∀ x ∈ m, nmP x = true := by
  unfold stepP at h
  split at h
  · cases h; exact hl
  · split at h
    · cases h; exact fun x hx => hl x (List.mem_of_mem_take hx)
    · split at h
      · rename_i hw
        cases h
        intro x hx
        rcases List.mem_append.1 hx with hx | hx
        · exact hl x hx
        · have : x = w := by simpa using hx
          rw [this]; exact hw
      · cases h
theorem foldP_nm : ∀ {l ws m : List (List UInt8)}, foldP l ws = some m → (∀ x ∈ l, nmP x = true) → ∀ x ∈ m, nmP x = true
  | l, [], m, h, hl => by cases h; exact hl
  | l, w :: ws, m, h, hl => by
    rw [foldP] at h
    cases hs : stepP l w with
    | none => rw [hs] at h; cases h
    | some k =>
      rw [hs] at h
      exact foldP_nm (show foldP k ws = some m from h) (stepP_nm hs hl)
theorem nm_len {x : List UInt8} (h : nmP x = true) : x.length ≤ 64 := by
  rcases Nat.lt_or_ge 64 x.length with h1 | h1
  · rw [nm_long h1] at h; cases h
  · exact h1
theorem tail_len (c : UInt8) : ∀ l : List (List UInt8), (∀ x ∈ l, x.length ≤ 64) → (Lib.joinTail [c] l).length ≤ l.length * 65
  | [], _ => by simp [Lib.joinTail]
  | x :: l, h => by
    have h1 := tail_len c l (fun y hy => h y (List.mem_cons_of_mem _ hy))
    have h2 := h x List.mem_cons_self
    have e : Lib.joinTail [c] (x :: l) = c :: x ++ Lib.joinTail [c] l := by simp [Lib.joinTail]
    rw [e, List.length_append, List.length_cons, List.length_cons]
    omega
theorem join_len (c : UInt8) (l : List (List UInt8)) (h : ∀ x ∈ l, x.length ≤ 64) : (Lib.join l [c]).length ≤ l.length * 65 := by
  cases l with
  | nil => simp [Lib.join]
  | cons x l =>
    have h1 := tail_len c l (fun y hy => h y (List.mem_cons_of_mem _ hy))
    have h2 := h x List.mem_cons_self
    rw [Lib.join_cons, List.length_append, List.length_cons]
    omega
/-- What a text comes to. -/
def normB (s : List UInt8) : List UInt8 × Bool :=
  if (cutP s).2 = true then match foldP [] (spl 47 (cutP s).1) with
    | some l => if (47 :: Lib.join l [47]).length ≤ 256 then (47 :: Lib.join l [47], true) else ([], false)
    | none => ([], false)
  else ([], false)
abbrev NormR (s : List UInt8) (w : World) (e : Ending) (w' : World) : Prop := e = .returned (.tuple #[.string (txt (normB s).1), .bool (normB s).2]) ∧ Below w.heap.size w w'
set_option maxRecDepth 1000000 in
set_option maxHeartbeats 3200000 in
theorem c_normal_no (x : List UInt8) (w : World) (hx : x.length ≤ 1000000) (hc : (cutP x).2 = false) : Calls Tryd.prog 24 #[.string (txt x)] w (NormR x w) := by
  have HN : Hid (normB x = ([], false)) := hide (by rw [normB, hc]; rfl)
  have HC := hide (c_cutp x)
  have HX := hide hx
  have HT := hide hc
  clear hc hx
  refine (callsIn_wide (n := 0)).1 (callsIn_of_wp_marks Tryd.func24 rfl trivial ?_ rfl)
  simp only [Tryd.ntmps24, List.size_toArray, List.length_cons, List.length_nil, Nat.reduceAdd, Nat.reduceSub, Array.replicate_succ, Array.replicate_zero, List.push_toArray, List.append_toArray, List.nil_append, List.cons_append]
  gi_wp2
  refine ⟨trivial, rfl, (callsIn_wide.2 (HC.out _ HX.out)).mono ?_⟩
  rintro e w1 ⟨rfl, rfl⟩
  rw [HT.out]
  gi_wp2
  refine ⟨.tuple #[.string ⟨#[]⟩, .bool false], ?_, ?_⟩
  · simp [results, Tryd.results24, go_sem]
  · rw [NormR, HN.out]; exact ⟨rfl, ((Below.refl _ w).alloc (Nat.le_refl _) _).alloc (by simp) _⟩
/-- The two results' boxes, as they were laid; what lay, lies. -/
def ResB (b : Nat) (w W : World) : Prop := Boxed W b 9 (.string ⟨#[]⟩) ∧ Boxed W (b + 1) 4 (.bool false) ∧ Below w.heap.size w W
/-- Between two rounds. -/
def NmI (b : Nat) (w : World) (pre : List (List UInt8)) (W : World) : Prop :=
  ∃ (l : List (List UInt8)) (v : Value), foldP [] pre = some l ∧ Boxed W (b + 2) 22 v ∧ kStr.Own (fun _ => False) (b + 8) W 9 v (l.map txt) ∧ ResB b w W
theorem boxed_new' {W : World} {n : Nat} (h : W.heap.size = n) (t : TypeId) (v : Value) : Boxed (W.alloc (.cells #[v] t)) n t v := h ▸ Boxed.new W t v
theorem Stp.below {k0 B : Nat} {w W W' : World} (h : Stp k0 B W W') (hb : Below w.heap.size w W) (hk : w.heap.size ≤ k0) : Below w.heap.size w W' :=
  ⟨h.os.trans hb.os, h.tape.trans hb.tape, h.output.trans hb.output, Nat.le_trans hb.size h.size, fun k hk' => (h.block k (by have := hb.size; omega) (.inl (by omega))).trans (hb.block k hk')⟩
theorem Stp.box {k0 B b : Nat} {W W' : World} (h : Stp k0 B W W') {t : TypeId} {v : Value} (hb : Boxed W b t v) (hk : b < k0) : Boxed W' b t v := (h.block b hb.lt (.inl hk)).trans hb
theorem ResB.keep {b k0 B : Nat} {w W W' : World} (hr : ResB b w W) (h : Stp k0 B W W') (h1 : b + 1 < k0) (h2 : w.heap.size ≤ k0) : ResB b w W' :=
  ⟨h.box hr.1 (by omega), h.box hr.2.1 h1, h.below hr.2.2 h2⟩
theorem ResB.later {b : Nat} {w W W' : World} (hr : ResB b w W) (hb : Below W.heap.size W W') : ResB b w W' :=
  ⟨(hb.block _ hr.1.lt).trans hr.1, (hb.block _ hr.2.1.lt).trans hr.2.1, hr.2.2.trans (hb.mono hr.2.2.size)⟩
theorem ResB.laterB {b B : Nat} {w W W' : World} (hr : ResB b w W) (hb : Below B W W') (h1 : b + 1 < B) (h2 : w.heap.size ≤ B) : ResB b w W' :=
  ⟨(hb.block _ (by omega)).trans hr.1, (hb.block _ h1).trans hr.2.1, hr.2.2.trans (hb.mono h2)⟩
theorem own_set {b c : Nat} {W : World} {v : Value} {xs : List ByteArray} (h : kStr.Own (fun _ => False) b W 9 v xs) (hc : c < b) (u : Value) : kStr.Own (fun _ => False) b (W.setCell ⟨c, 0, none⟩ u) 9 v xs :=
  h.keep fun k _ ho => by
    rcases ho with ho | ho
    · exact ho.elim
    · exact Below.heap_setCell _ _ _ _ (by have := (h.base_le k ho.symm).1; simp only; omega)
/-- Texts joined by the library, at a slash. -/
theorem c_pjoin (A : Option Addr) (n c : Nat) (l : List (List UInt8)) (ok : Nat → Prop) (w : World) (hR : kStr.Row ok w A n c (l.map txt)) (hj : (Lib.join l [47]).length ≤ 140737488355328) (hn : n ≤ 140737488355328) :
    Calls Tryd.prog 48 #[.slice A n c, .string ⟨#[47]⟩] w fun e w' => e = .returned (.string (txt (Lib.join l [47]))) ∧ Below w.heap.size w w' := by
  have hl : (l.map txt).length = n := hR.1
  have e2 : ((l.map txt).map (·.data.toList)) = l := by
    rw [List.map_map]
    conv => rhs; rw [← List.map_id l]
    exact List.map_congr_left fun x _ => byt_txt x
  rcases Nat.eq_zero_or_pos n with h0 | h0
  · subst h0
    have e1 : l = [] := by simpa using hl
    refine (Tryd.strings_Join_none A c ⟨#[47]⟩ w).mono ?_
    rintro e w' ⟨rfl, rfl⟩
    exact ⟨by rw [e1]; rfl, Below.refl _ _⟩
  · obtain ⟨b, o, rfl, hb, hc⟩ := row_cells hR h0
    have h := Tryd.strings_Join b o c (l.map txt) ⟨#[47]⟩ w hc hb (by omega) (by rw [hl]; exact hR.2.1) (by rw [e2]; exact hj)
    rw [e2, hl] at h
    exact h
theorem ResB.stay {b c : Nat} {w W : World} (hr : ResB b w W) (h1 : c ≠ b) (h2 : c ≠ b + 1) (h3 : w.heap.size ≤ c) (v : Value) : ResB b w (W.setCell ⟨c, 0, none⟩ v) :=
  ⟨hr.1.other (Ne.symm h1) v, hr.2.1.other (Ne.symm h2) v, hr.2.2.setCell (p := ⟨c, 0, none⟩) h3 v⟩
/-- The results stored. -/
theorem res_set {b : Nat} {w W : World} (hr : ResB b w W) (hw : w.heap.size ≤ b) (p : ByteArray) (r : Bool) :
    Boxed ((W.setCell ⟨b, 0, none⟩ (.string p)).setCell ⟨b + 1, 0, none⟩ (.bool r)) b 9 (.string p) ∧
    Boxed ((W.setCell ⟨b, 0, none⟩ (.string p)).setCell ⟨b + 1, 0, none⟩ (.bool r)) (b + 1) 4 (.bool r) ∧
    Below w.heap.size w ((W.setCell ⟨b, 0, none⟩ (.string p)).setCell ⟨b + 1, 0, none⟩ (.bool r)) :=
  ⟨(hr.1.set _).other (by omega) _, (hr.2.1.other (by omega) _).set _, (hr.2.2.setCell (p := ⟨b, 0, none⟩) hw _).setCell (p := ⟨b + 1, 0, none⟩) (by simp only; omega) _⟩
theorem NmI.keep {b k0 : Nat} {w W W' : World} {pre : List (List UInt8)} (hr : NmI b w pre W) (h : Stp k0 (b + 8) W W') (h1 : b + 2 < k0) (h2 : w.heap.size ≤ k0) : NmI b w pre W' := by
  obtain ⟨l, v, h3, h4, h5, h6⟩ := hr
  refine ⟨l, v, h3, h.box h4 h1, h5.keep fun k hk ho => ?_, h6.keep h (by omega) h2⟩
  rcases ho with ho | ho
  · exact ho.elim
  · exact h.block k hk (.inr (h5.base_le k ho.symm).1)
theorem Stp.more {k0 B B' : Nat} {W W' : World} (h : Stp k0 B W W') (hB : B ≤ B') : Stp k0 B' W W' := ⟨h.os, h.tape, h.output, h.size, fun k hk hb => h.block k hk (by omega)⟩
theorem stp_put {k0 B l : Nat} {W : World} (o' : Obj) (h1 : k0 ≤ l) (h2 : l < B) : Stp k0 B W (W.putObj l o') := by
  have hg := grownBy_putObj' W l o'
  exact ⟨hg.os, hg.tape, hg.output, hg.size, fun k hk hb => hg.block k hk (fun e => by have := Option.some.inj e; omega)⟩
/-- At the function's return, the results stored. -/
theorem norm_end {x : List UInt8} {w W : World} {B : Nat} (hr : ResB w.heap.size w W) (hk : W.heap[B]? = some (.deferred (some []))) (hB : w.heap.size + 2 ≤ B) (tmps : Array Value)
    (h2 : tmps[2]?.getD undef = .pointer (some ⟨w.heap.size, 0, none⟩)) (h3 : tmps[3]?.getD undef = .pointer (some ⟨w.heap.size + 1, 0, none⟩)) (p : List UInt8) (r : Bool) (hn : normB x = (p, r)) :
    bodyPostM Fence.wide 0 Tryd.prog Tryd.f24 (NormR x w) .ret { tmps := tmps, defers := [{ target := .collected B, args := #[] }] } ((W.setCell ⟨w.heap.size, 0, none⟩ (.string (txt p))).setCell ⟨w.heap.size + 1, 0, none⟩ (.bool r)) := by
  obtain ⟨e1, e2, e3⟩ := res_set hr (Nat.le_refl _) (txt p) r
  have hk' : ((W.setCell ⟨w.heap.size, 0, none⟩ (.string (txt p))).setCell ⟨w.heap.size + 1, 0, none⟩ (.bool r)).heap[B]? = some (.deferred (some [])) :=
    (Below.heap_setCell _ _ _ _ (by simp only; omega)).trans ((Below.heap_setCell _ _ _ _ (by simp only; omega)).trans hk)
  obtain ⟨W', hW'⟩ : ∃ W', ((W.setCell ⟨w.heap.size, 0, none⟩ (.string (txt p))).setCell ⟨w.heap.size + 1, 0, none⟩ (.bool r)) = W' := ⟨_, rfl⟩
  rw [hW'] at e1 e2 e3 hk' ⊢
  have c1 := (e1.kept (grownBy_putObj' W' B (.deferred none)) (fun e => by have := Option.some.inj e; omega)).cell
  have c2 := (e2.kept (grownBy_putObj' W' B (.deferred none)) (fun e => by have := Option.some.inj e; omega)).cell
  refine ⟨by simp, .inl ⟨_, _, rfl, run_takeDeferred hk', ?_⟩⟩
  refine ⟨.tuple #[.string (txt p), .bool r], ?_, ?_⟩
  · simp [results, Tryd.results24, go_sem, h2, h3, c1, c2]
  · rw [NormR, hn]
    exact ⟨rfl, e3.grown (grownBy_putObj' W' B _) e3.size (fun k e => by cases e; omega)⟩
set_option maxRecDepth 1000000 in
set_option maxHeartbeats 3200000 in
theorem c_normal_yes (x : List UInt8) (w : World) (hx : x.length ≤ 1000000) (hc : (cutP x).2 = true) : Calls Tryd.prog 24 #[.string (txt x)] w (NormR x w) := by
  have HC := hide (c_cutp x)
  have HX := hide hx
  have HT := hide hc
  obtain ⟨y, hy⟩ : ∃ y, (cutP x).1 = y := ⟨_, rfl⟩
  have hyl : y.length ≤ 1000000 := by
    have : (cutP x).1.length ≤ x.length := by
      cases x with
      | nil => simp [cutP]
      | cons b t => by_cases hb : b = 47 <;> simp [cutP, hb]
    rw [hy] at this; omega
  have HN : Hid (normB x = match foldP [] (spl 47 y) with
    | some l => if (47 :: Lib.join l [47]).length ≤ 256 then (47 :: Lib.join l [47], true) else ([], false)
    | none => ([], false)) := hide (by rw [normB, hc, hy]; rfl)
  have HY := hide hy
  clear hc hx hy
  refine (callsIn_wide (n := 0)).1 (callsIn_of_wp_marks Tryd.func24 rfl trivial ?_ rfl)
  simp only [Tryd.ntmps24, List.size_toArray, List.length_cons, List.length_nil, Nat.reduceAdd, Nat.reduceSub, Array.replicate_succ, Array.replicate_zero, List.push_toArray, List.append_toArray, List.nil_append, List.cons_append]
  gi_wp2
  refine ⟨trivial, rfl, (callsIn_wide.2 (HC.out _ HX.out)).mono ?_⟩
  rintro e w1 ⟨rfl, rfl⟩
  rw [HT.out, HY.out]
  gi_wp2
  refine ⟨trivial, rfl, (callsIn_wide.2 (c_splitseq y _)).mono ?_⟩
  rintro e w1 ⟨rfl, hw1⟩
  simp only [World.size_alloc] at hw1 ⊢
  gi_wp2
  simp only [Nat.add_assoc, Nat.reduceAdd]
  have hsz : w1.heap.size = w.heap.size + 6 := by rw [hw1]; simp only [World.size_alloc]
  have r1 : Boxed w1 w.heap.size 9 (.string ⟨#[]⟩) := by rw [hw1]; exact (((((Boxed.new w _ _).alloc _).alloc _).alloc _).alloc _).alloc _
  have r2 : Boxed w1 (w.heap.size + 1) 4 (.bool false) := by rw [hw1]; exact ((((boxed_new' (by simp only [World.size_alloc]) _ _).alloc _).alloc _).alloc _).alloc _
  have r3 : Boxed w1 (w.heap.size + 2) 22 (.slice none 0 0) := by rw [hw1]; exact (((boxed_new' (by simp only [World.size_alloc]) _ _).alloc _).alloc _).alloc _
  have r4 : SeqAt (w.heap.size + 3) y w1 := by rw [hw1]; exact ⟨((boxed_new' (by simp only [World.size_alloc]) _ _).alloc _).alloc _, (boxed_new' (by simp only [World.size_alloc]) _ _).alloc _, boxed_new' (by simp only [World.size_alloc]) _ _⟩
  have rb : Below w.heap.size w w1 := by
    rw [hw1]
    exact ((((((Below.refl _ w).alloc (Nat.le_refl _) _).alloc (by simp only [World.size_alloc]; omega) _).alloc (by simp only [World.size_alloc]; omega) _).alloc (by simp only [World.size_alloc]; omega) _).alloc (by simp only [World.size_alloc]; omega) _).alloc (by simp only [World.size_alloc]; omega) _
  clear hw1
  refine wpIn_range_st (gf := 106) (lb := #[.pointer (some ⟨w.heap.size + 4, 0, none⟩), .pointer (some ⟨w.heap.size + 3, 0, none⟩), .pointer (some ⟨w.heap.size + 5, 0, none⟩)]) (k0 := w.heap.size + 3) rfl (enters_of Tryd.func106 (by kernel_rfl) rfl)
    (seq_on y (w.heap.size + 3) w1.heap.size (by omega) hyl) rfl (by omega) (fun W hb => r4.keep fun k h1 h2 => hb.block k (by omega))
    (NmI w.heap.size w) (fun _ W => foldP [] (spl 47 y) = none ∧ ResB w.heap.size w W)
    (fun s A C hs h => h.keep (hs.more (by omega)) (by omega) (by omega))
    (fun s A C hs h => ⟨h.1, h.2.keep hs (by omega) (by omega)⟩)
    (fun s A o o' ho h => h.keep (stp_put (k0 := w.heap.size + 3) o' (by omega) (by omega)) (by omega) (by omega))
    (fun s A o o' ho h => ⟨h.1, h.2.keep (stp_put (k0 := w.heap.size + 3) (B := w.heap.size + 8) o' (by omega) (by omega)) (by omega) (by omega)⟩)
    (fun W hb => ⟨[], _, rfl, (hb.block _ (by omega)).trans r3, Kd.Own.nil _ _ _ _ _, (hb.block _ (by omega)).trans r1, (hb.block _ (by omega)).trans r2, rb.trans (hb.mono rb.size)⟩)
    (fun q => { tmps := #[.string (txt x), undef, .pointer (some ⟨w.heap.size, 0, none⟩), .pointer (some ⟨w.heap.size + 1, 0, none⟩), .string (txt y), .bool true, .pointer (some ⟨w.heap.size + 2, 0, none⟩), .string (txt q), undef, .tuple #[.string (txt y), .bool true], .string (txt x), .tuple #[.string (txt y), .bool true], .string (txt y), .bool true, .bool true, .bool false, .string (txt y), .func (.func 106) #[] #[.pointer (some ⟨w.heap.size + 4, 0, none⟩), .pointer (some ⟨w.heap.size + 3, 0, none⟩), .pointer (some ⟨w.heap.size + 5, 0, none⟩)], .string (txt q), undef, undef, undef, undef, undef, undef, undef, undef, undef, undef, undef, undef, undef, undef, undef, undef, undef, undef, undef, undef, undef, undef, undef, undef, undef, undef, undef, undef, undef, undef, undef, undef, undef, undef], defers := [] }) ?assign ?body ?done ?stop
  case assign =>
    intro q W K hK
    gi_wp2
    exact hK
  case body =>
    rintro pre q r W hx ⟨l, v, hf, hb, ho, hr⟩ hs2
    have HS : Hid (foldP [] (pre ++ [q]) = stepP l q) := hide (by rw [foldP_append, hf]; show (stepP l q).bind (fun m => some m) = _; cases stepP l q <;> rfl)
    have HX := hide hx
    have HF := hide hf
    have HR := hide hr
    have HO := hide ho
    have HB := hide hb
    have hlen : l.length ≤ 1000001 := by
      have h1 := foldP_len hf
      have h2 : (spl 47 y).length ≤ 1000001 := by rw [spl_len]; have := List.count_le_length (a := (47 : UInt8)) (l := y); omega
      rw [← hx] at h2
      simp only [List.length_append, List.length_cons, List.length_nil] at h1 h2
      omega
    have c := hb.cell
    have fz := hb.frozen
    obtain ⟨A9, c9, rfl⟩ := ho.form
    rw [List.length_map] at c HB HO
    clear hx hf hr ho hb
    by_cases h0 : q = []
    · subst h0
      gi_wp2
      exact ⟨Rnd.refl _ _ _, l, _, by rw [HS.out]; rfl, HB.out, HO.out, HR.out⟩
    · have h0' : (q == []) = false := beq_eq_false_iff_ne.2 h0
      by_cases h1 : q = [46]
      · subst h1
        gi_wp2
        exact ⟨Rnd.refl _ _ _, l, _, by rw [HS.out]; rfl, HB.out, HO.out, HR.out⟩
      · have h1' : (q == [46]) = false := beq_eq_false_iff_ne.2 h1
        by_cases h2 : q = [46, 46] ∧ 0 < l.length
        · obtain ⟨h2, h3⟩ := h2
          have h3' : (0 : Int) < (l.length : Int) := by omega
          have HU := hide (HO.out.upto (l.length - 1) (by omega))
          obtain ⟨A8, c8, e8, hrow⟩ := HO.out.row
          obtain ⟨rfl, -, rfl⟩ := Value.slice.inj e8
          rw [List.length_map] at hrow
          have hsl := hrow.upto Tryd.underlying22 str_info (k := l.length - 1) (by omega) .i64 ((l.length : Int) - 1) (by omega)
          have hlt := HB.out.lt
          subst h2
          clear hrow e8
          gi_wp2
          refine ⟨Rnd.set _ _ (by omega) _, l.take (l.length - 1), _, by rw [HS.out, stepP, if_neg (by decide), if_pos ⟨rfl, h3⟩], HB.out.set _, ?_, HR.out.stay (by omega) (by omega) (by omega) _⟩
          rw [List.map_take]
          exact own_set HU.out (by omega) _
        · have HS2 : Hid (stepP l q = if nmP q = true then some (l ++ [q]) else none) := hide (by rw [stepP, if_neg (by simp [h0, h1]), if_neg h2])
          have hG : ((q == [46, 46]) = false) ∨ (q = [46, 46] ∧ ¬ (0 : Int) < (l.length : Int)) := by
            by_cases h4 : q = [46, 46]
            · exact .inr ⟨h4, fun h5 => h2 ⟨h4, by omega⟩⟩
            · exact .inl (beq_eq_false_iff_ne.2 h4)
          have HC := hide (c_pname q)
          clear h2
          cases hn : nmP q with
          | false =>
            have HZ : Hid (foldP [] (spl 47 y) = none) := hide (by rw [← HX.out, show pre ++ q :: r = (pre ++ [q]) ++ r by simp, foldP_append, HS.out, HS2.out, if_neg (by rw [hn]; simp)]; rfl)
            have HN2 := hide hn
            have HSZ := hide hs2
            clear hn
            rcases hG with hG | ⟨hG, hG2⟩
            · skip
              gi_wp2
              refine ⟨trivial, rfl, CallsIn.inRound _ ((callsIn_wide.2 (HC.out _)).mono ?_)⟩
              rintro e W2 ⟨rfl, b2⟩
              rw [HN2.out]
              have HR2 := hide (HR.out.later b2)
              have HRN : Hid (Rnd (w.heap.size + 3) (w1.heap.size + 2) W W2) := hide (Rnd.of_below (b2.mono HSZ.out))
              have rc1 := HR2.out.1.cell
              have rf1 := HR2.out.1.frozen
              have rc2 := HR2.out.2.1.cell
              have rf2 := HR2.out.2.1.frozen
              clear b2 c fz
              gi_wp2
              exact ⟨(HRN.out.trans (Rnd.set _ _ (by omega) _)).trans (Rnd.set _ _ (by omega) _), HZ.out, res_set HR2.out (Nat.le_refl _) _ _⟩
            · subst hG
              gi_wp2
              refine ⟨trivial, rfl, CallsIn.inRound _ ((callsIn_wide.2 (HC.out _)).mono ?_)⟩
              rintro e W2 ⟨rfl, b2⟩
              rw [HN2.out]
              have HR2 := hide (HR.out.later b2)
              have HRN : Hid (Rnd (w.heap.size + 3) (w1.heap.size + 2) W W2) := hide (Rnd.of_below (b2.mono HSZ.out))
              have rc1 := HR2.out.1.cell
              have rf1 := HR2.out.1.frozen
              have rc2 := HR2.out.2.1.cell
              have rf2 := HR2.out.2.1.frozen
              clear b2 c fz
              gi_wp2
              exact ⟨(HRN.out.trans (Rnd.set _ _ (by omega) _)).trans (Rnd.set _ _ (by omega) _), HZ.out, res_set HR2.out (Nat.le_refl _) _ _⟩
          | true =>
            have hG3 : (q == [46, 46]) = false := by
              rcases hG with hG | ⟨hG, -⟩
              · exact hG
              · rw [hG, nm_dots] at hn; cases hn
            have HN2 := hide hn
            have HSZ := hide hs2
            have HSL : Hid ((txt q).size ≤ maxLen) := hide (by rw [txt_size]; have := nm_len hn; simp only [maxLen]; omega)
            clear hn hG
            gi_wp2
            refine ⟨trivial, rfl, CallsIn.inRound _ ((callsIn_wide.2 (HC.out _)).mono ?_)⟩
            rintro e W2 ⟨rfl, b2⟩
            rw [HN2.out]
            have HR2 := hide (HR.out.later b2)
            have HRN : Hid (Rnd (w.heap.size + 3) (w1.heap.size + 2) W W2) := hide (Rnd.of_below (b2.mono HSZ.out))
            have HB2 : Hid (Boxed W2 (w.heap.size + 2) 22 (.slice A9 l.length c9)) := hide ((b2.block _ HB.out.lt).trans HB.out)
            have HO2 := hide (HO.out.below b2)
            have hs3 : w.heap.size + 8 ≤ W2.heap.size := by have := b2.size; have := HSZ.out; omega
            have c := HB2.out.cell
            clear b2 fz
            have HVA : Hid (kStr.App (fun _ => False) (w.heap.size + 8) (W2.alloc (.cells #[.string (txt q)] 9)) 9 (.slice A9 l.length c9) (l.map txt)) := hide ((show kStr.App (fun _ => False) (w.heap.size + 8) W2 9 (.slice A9 l.length c9) (l.map txt) from .inl HO2.out).alloc hs3 _)
            have HSRC : Hid (kStr.Src (fun j => False ∧ some j ≠ (Value.slice A9 l.length c9).ownBlock) (W2.alloc (.cells #[.string (txt q)] 9)) (some ⟨W2.heap.size, 0, none⟩) 1 [txt q]) := hide (Kd.Src.new (d := kStr) (show kStr.K (fun j => False ∧ some j ≠ (Value.slice A9 l.length c9).ownBlock) W2 (txt q) [.string (txt q)] from ⟨rfl, HSL.out⟩) _ rfl _ rfl)
            gi_wp2_with (gi_at_builtin; go_loud (refine wpListIn_app (d := kStr) (ok := fun _ => False) (base := w.heap.size + 8) rfl _ _ _ rfl Tryd.underlying22 str_inf rfl (by decide) 1 rfl rfl HVA.out HSRC.out ?_ ?_ ?_ ?_))
            · simp only [World.size_alloc]; omega
            · rw [List.length_map]; simp only [maxLen]; omega
            · rw [List.length_map]; omega
            intro v2 w2 h2 b2 b3
            have h2' : kStr.Own (fun _ => False) (w.heap.size + 8) w2 9 v2 ((l ++ [q]).map txt) := by
              rw [List.map_append, List.map_singleton]
              exact h2
            obtain ⟨A7, c7, rfl⟩ := h2'.form
            rw [show ((l ++ [q]).map txt).length = l.length + 1 by simp] at h2' ⊢
            have HO7 := hide h2'
            have HB7 : Hid (Boxed w2 (w.heap.size + 2) 22 (.slice A9 l.length c9)) := hide ((b2.block _ (by omega)).trans (HB2.out.alloc _))
            have HR7 := hide ((HR2.out.later ((Below.refl _ W2).alloc (Nat.le_refl _) _)).laterB b2 (by omega) (by omega))
            have HRN7 : Hid (Rnd (w.heap.size + 3) (w1.heap.size + 2) W w2) := hide ((HRN.out.trans (Rnd.of_below ((Below.refl _ W2).alloc (by omega) _))).trans (Rnd.of_below (b2.mono (by omega))))
            have c7' := HB7.out.cell
            have f7 := HB7.out.frozen
            clear h2 h2' b2 b3 c HVA HSRC
            gi_wp2
            exact ⟨HRN7.out.trans (Rnd.set _ _ (by omega) _), l ++ [q], _, by rw [HS.out, HS2.out, if_pos HN2.out], HB7.out.set _, own_set (c := w.heap.size + 2) HO7.out (by omega) _, HR7.out.stay (by omega) (by omega) (by omega) _⟩
  case done =>
    rintro W ⟨l, v, hf, hb, ho, hr⟩ hK
    have c := hb.cell
    obtain ⟨A9, c9, rfl, hrow⟩ := ho.row
    rw [List.length_map] at c hrow
    have hnm := foldP_nm hf (fun x h => absurd h (by simp))
    have hlen : l.length ≤ 1000001 := by
      have h1 := foldP_len hf
      rw [spl_len] at h1
      have := List.count_le_length (a := (47 : UInt8)) (l := y)
      simp only [List.length_nil] at h1
      omega
    have hjl := join_len 47 l (fun x hx => nm_len (hnm x hx))
    have HRW := hide hrow
    have HF := hide hf
    have HR := hide hr
    have HK := hide hK
    have HJL := hide hjl
    clear hrow hf hr hK hnm hjl hb ho
    gi_wp2
    refine ⟨trivial, rfl, (callsIn_wide.2 (c_pjoin A9 _ c9 l _ _ HRW.out (by have := HJL.out; omega) (by omega))).mono ?_⟩
    rintro e W2 ⟨rfl, b2⟩
    have HJ2 := hide ((b2.block _ (by have := (Array.getElem?_eq_some_iff.1 HK.out).1; exact this)).trans HK.out)
    have HR2 := hide (HR.out.later b2)
    have hjz : (txt (Lib.join l [47])).size = (Lib.join l [47]).length := txt_size _
    obtain ⟨j, hj⟩ : ∃ j, (Lib.join l [47]).length = j := ⟨_, rfl⟩
    rw [hj] at hjz
    have HJ := hide hj
    have hjb : j ≤ 65000065 := by have := HJL.out; omega
    clear hj b2 c
    have rc1 := HR2.out.1.cell
    have rf1 := HR2.out.1.frozen
    have rc2 := HR2.out.2.1.cell
    have rf2 := HR2.out.2.1.frozen
    gi_wp2
    · have hn : normB x = ([], false) := by
        rw [HN.out, HF.out]
        show (if (47 :: Lib.join l [47]).length ≤ 256 then (47 :: Lib.join l [47], true) else ([], false)) = _
        rw [if_neg (by rw [List.length_cons, HJ.out]; omega)]
      have hj3 := HJ2.out
      rw [hsz] at hj3
      refine norm_end HR2.out hj3 (by omega) _ ?_ ?_ [] false hn
      · rfl
      · rfl
    · have hn : normB x = (47 :: Lib.join l [47], true) := by
        rw [HN.out, HF.out]
        show (if (47 :: Lib.join l [47]).length ≤ 256 then (47 :: Lib.join l [47], true) else ([], false)) = _
        rw [if_pos (by rw [List.length_cons, HJ.out]; omega)]
      rw [show (⟨#[47]⟩ : ByteArray) ++ txt (Lib.join l [47]) = txt (47 :: Lib.join l [47]) from by rw [show (⟨#[47]⟩ : ByteArray) = txt [47] from rfl, txt_app2]; rfl]
      have hj3 := HJ2.out
      rw [hsz] at hj3
      refine norm_end HR2.out hj3 (by omega) _ ?_ ?_ (47 :: Lib.join l [47]) true hn
      · rfl
      · rfl
  case stop =>
    rintro pre W ⟨hf, hr⟩ hK
    gi_wp2
    refine ⟨by simp, .inl ⟨_, _, rfl, run_takeDeferred hK, ?_⟩⟩
    have e1 := (hr.1.kept (grownBy_putObj' W w1.heap.size (.deferred none)) (fun e => by have := Option.some.inj e; omega)).cell
    have e2 := (hr.2.1.kept (grownBy_putObj' W w1.heap.size (.deferred none)) (fun e => by have := Option.some.inj e; omega)).cell
    refine ⟨.tuple #[.string ⟨#[]⟩, .bool false], ?_, ?_⟩
    · simp [results, Tryd.results24, go_sem, e1, e2]
    · rw [NormR, HN.out, hf]
      exact ⟨rfl, hr.2.2.trans (belowK_b (w := w1) (by omega) W _ _ _ (Nat.le_refl _) hK rfl rfl)⟩
theorem c_normal (x : List UInt8) (w : World) (hx : x.length ≤ 1000000) : Calls Tryd.prog 24 #[.string (txt x)] w (NormR x w) := by
  cases hc : (cutP x).2 with
  | false => exact c_normal_no x w hx hc
  | true => exact c_normal_yes x w hx hc
end Go.Proofs.YtckcadhjpjjmjaaDoor
namespace Go.Proofs.YtckcadhjpjjmjaaDoor
open Go.RowKit
/-- How far a text has been cut: k letters looked at, f where the piece begins. -/
def Cut (c : UInt8) (x : List UInt8) (k f : Nat) (dn : List (List UInt8)) : Prop :=
  (k ≤ x.length ∧ f ≤ k ∧ dn ++ spl c (x.drop f) = spl c x ∧ c ∉ (x.drop f).take (k - f)) ∨ (k = x.length + 1 ∧ dn = spl c x)
theorem cut_zero (c : UInt8) (x : List UInt8) : Cut c x 0 0 [] := .inl ⟨Nat.zero_le _, Nat.le_refl _, rfl, by simp⟩
theorem cut_end {c : UInt8} {x : List UInt8} {f : Nat} {dn : List (List UInt8)} (h : Cut c x x.length f dn) : Cut c x (x.length + 1) (x.length + 1) (dn ++ [(x.drop f).take (x.length - f)]) := by
  rcases h with ⟨-, hf, h1, h2⟩ | ⟨h1, -⟩
  · refine .inr ⟨rfl, ?_⟩
    have e : (x.drop f).take (x.length - f) = x.drop f := List.take_of_length_le (by rw [List.length_drop]; exact Nat.le_refl _)
    rw [e] at h2 ⊢
    rw [← h1, spl_one c _ h2]
  · omega
theorem cut_hit {c : UInt8} {x : List UInt8} {k f : Nat} {dn : List (List UInt8)} (h : Cut c x k f dn) (hx : x[k]? = some c) : Cut c x (k + 1) (k + 1) (dn ++ [(x.drop f).take (k - f)]) := by
  obtain ⟨hk, he⟩ := List.getElem?_eq_some_iff.1 hx
  rcases h with ⟨-, hf, h1, h2⟩ | ⟨h1, -⟩
  · refine .inl ⟨hk, Nat.le_refl _, ?_, by simp⟩
    have e : x.drop f = (x.drop f).take (k - f) ++ c :: x.drop (k + 1) := by
      conv => lhs; rw [← List.take_append_drop (k - f) (x.drop f)]
      rw [List.drop_drop, show f + (k - f) = k from by omega, List.drop_eq_getElem_cons hk, he]
    rw [← h1, List.append_assoc]
    conv => rhs; rw [e, spl_cut c _ _ h2]
    rfl
  · omega
theorem cut_miss {c y : UInt8} {x : List UInt8} {k f : Nat} {dn : List (List UInt8)} (h : Cut c x k f dn) (hx : x[k]? = some y) (hy : ¬ y = c) : Cut c x (k + 1) f dn := by
  obtain ⟨hk, he⟩ := List.getElem?_eq_some_iff.1 hx
  rcases h with ⟨-, hf, h1, h2⟩ | ⟨h1, -⟩
  · refine .inl ⟨hk, by omega, h1, ?_⟩
    have e : (x.drop f)[k - f]? = some y := by rw [List.getElem?_drop, show f + (k - f) = k from by omega]; exact hx
    rw [show k + 1 - f = (k - f) + 1 from by omega, List.take_add_one, e]
    intro hm
    rcases List.mem_append.1 hm with hm | hm
    · exact h2 hm
    · have h3 : c = y := by simpa using hm
      exact hy h3.symm
  · omega
theorem cut_from {c : UInt8} {x : List UInt8} {k f : Nat} {dn : List (List UInt8)} (h : Cut c x k f dn) (hk : k ≤ x.length) : f ≤ k := by
  rcases h with ⟨-, hf, -, -⟩ | ⟨h1, -⟩
  · exact hf
  · omega
theorem cut_done {c : UInt8} {x : List UInt8} {k f : Nat} {dn : List (List UInt8)} (h : Cut c x k f dn) (hk : ¬ k ≤ x.length) : dn = spl c x := by
  rcases h with ⟨h1, -, -, -⟩ | ⟨-, h1⟩
  · exact absurd h1 hk
  · exact h1
/-- Texts in memory of the call's own. -/
def TextsR (w : World) (l : List (List UInt8)) (e : Ending) (w' : World) : Prop :=
  ∃ A n c, e = .returned (.slice A n c) ∧ kStr.Row (fun _ => True) w' A n c (l.map txt) ∧ Below w.heap.size w w'
set_option maxRecDepth 100000 in
set_option maxHeartbeats 3200000 in
theorem c_rsplit (x : List UInt8) (c : UInt8) (w : World) (hx : x.length ≤ 1000000) :
    Calls Tryd.prog 62 #[.string (txt x), .int .u8 (c.toNat : Int)] w (TextsR w (spl c x)) := by
  have hsz : (txt x).size = x.length := txt_size x
  obtain ⟨n, hn⟩ : ∃ n, x.length = n := ⟨_, rfl⟩
  rw [hn] at hsz hx
  have HL := hide hn
  have HO : Hid (kStr.Own (fun _ => True) w.heap.size (w.alloc (.cells #[] 9)) 9 (.slice (some ⟨w.heap.size, 0, none⟩) 0 0) []) := hide (Kd.Own.lit (.nil _ _ _) #[] rfl 0 rfl (Nat.zero_le _) _ rfl (Nat.le_refl _))
  clear hn
  go_enter Tryd.func62, Tryd.ntmps62
  go_wp2_with fail
  go_loopw [5, 6, 7] (fun v fv iv wr => ∃ (V : Value) (k f : Nat) (dn : List (List UInt8)), V = v ∧ iv = .int .i64 (k : Int) ∧ fv = .int .i64 (f : Int) ∧ k ≤ n + 1 ∧ dn.length ≤ k ∧ Hid (Cut c x k f dn) ∧ Hid (kStr.Own (fun _ => True) w.heap.size wr 9 v (dn.map txt)) ∧ Hid (Below w.heap.size w wr)) (fun _ _ i _ => n + 2 - (intOf i).toNat)
  case atStart => exact ⟨_, 0, 0, [], rfl, rfl, rfl, Nat.zero_le _, Nat.le_refl _, hide (cut_zero c x), HO, hide ((Below.refl _ _).alloc (Nat.le_refl _) _)⟩
  case round =>
    obtain ⟨v, k, f, dn, rfl, rfl, rfl, hk, hdn, HC, HV, HB⟩ := hrel
    have hsb := HB.out.size
    by_cases hlt : k ≤ n
    · have hfk := cut_from HC.out (by have := HL.out; omega)
      by_cases hkn : k = n
      · subst hkn
        have HSL : Hid (((txt x).extract f k).size ≤ maxLen) := hide (by rw [ext_txt, txt_size, List.length_take, List.length_drop]; have := HL.out; simp only [maxLen]; omega)
        have HVA : Hid (kStr.App (fun _ => True) w.heap.size (wr.alloc (.cells #[.string ((txt x).extract f k)] 9)) 9 v (dn.map txt)) := hide ((show kStr.App (fun _ => True) w.heap.size wr 9 v (dn.map txt) from .inl HV.out).alloc hsb _)
        have HSRC : Hid (kStr.Src (fun j => True ∧ some j ≠ v.ownBlock) (wr.alloc (.cells #[.string ((txt x).extract f k)] 9)) (some ⟨wr.heap.size, 0, none⟩) 1 [(txt x).extract f k]) := hide (Kd.Src.new (d := kStr) (show kStr.K (fun j => True ∧ some j ≠ v.ownBlock) wr ((txt x).extract f k) [.string ((txt x).extract f k)] from ⟨rfl, HSL.out⟩) _ rfl _ rfl)
        go_wp2_with (at_builtin; go_loud (refine wpList_app (d := kStr) (ok := fun _ => True) (base := w.heap.size) rfl _ _ _ rfl Tryd.underlying22 str_inf rfl (by decide) 1 rfl rfl HVA.out HSRC.out ?_ ?_ ?_ ?_))
        · simp only [World.size_alloc]; omega
        · rw [List.length_map]; simp only [maxLen]; omega
        · rw [List.length_map]; omega
        intro v2 w2 _ h2 b2 _ _
        have h2' : kStr.Own (fun _ => True) w.heap.size w2 9 v2 ((dn ++ [(x.drop f).take (k - f)]).map txt) := by
          rw [List.map_append, List.map_singleton, ← ext_txt]
          exact h2
        have H2 := hide h2'
        have HB2 := hide ((HB.out.alloc hsb _).trans b2)
        have HC2 := hide (show Cut c x (k + 1) (k + 1) (dn ++ [(x.drop f).take (k - f)]) from by have e := HL.out; subst e; exact cut_end HC.out)
        clear h2 h2' b2 HVA HSRC HSL HV
        go_wp2_with fail
        go_roundw
        case rel => exact ⟨v2, k + 1, k + 1, dn ++ [(x.drop f).take (k - f)], rfl, by simp, by simp, by omega, by simp; omega, HC2, H2, HB2⟩
        case measure => simp [intOf] <;> omega
      · obtain ⟨y, hy⟩ : ∃ y, x[k]? = some y := ⟨_, List.getElem?_eq_getElem (by have := HL.out; omega)⟩
        have hix := txt_byte (P := Tryd.prog) Tryd.underlying9 hy .i64
        have hkn' : ¬ (k : Int) = (n : Int) := by omega
        by_cases hyc : y = c
        · subst hyc
          have HY := hide hy
          clear hy
          have HSL : Hid (((txt x).extract f k).size ≤ maxLen) := hide (by rw [ext_txt, txt_size, List.length_take, List.length_drop]; have := HL.out; simp only [maxLen]; omega)
          have HVA : Hid (kStr.App (fun _ => True) w.heap.size (wr.alloc (.cells #[.string ((txt x).extract f k)] 9)) 9 v (dn.map txt)) := hide ((show kStr.App (fun _ => True) w.heap.size wr 9 v (dn.map txt) from .inl HV.out).alloc hsb _)
          have HSRC : Hid (kStr.Src (fun j => True ∧ some j ≠ v.ownBlock) (wr.alloc (.cells #[.string ((txt x).extract f k)] 9)) (some ⟨wr.heap.size, 0, none⟩) 1 [(txt x).extract f k]) := hide (Kd.Src.new (d := kStr) (show kStr.K (fun j => True ∧ some j ≠ v.ownBlock) wr ((txt x).extract f k) [.string ((txt x).extract f k)] from ⟨rfl, HSL.out⟩) _ rfl _ rfl)
          go_wp2_with (at_builtin; go_loud (refine wpList_app (d := kStr) (ok := fun _ => True) (base := w.heap.size) rfl _ _ _ rfl Tryd.underlying22 str_inf rfl (by decide) 1 rfl rfl HVA.out HSRC.out ?_ ?_ ?_ ?_))
          · simp only [World.size_alloc]; omega
          · rw [List.length_map]; simp only [maxLen]; omega
          · rw [List.length_map]; omega
          intro v2 w2 _ h2 b2 _ _
          have h2' : kStr.Own (fun _ => True) w.heap.size w2 9 v2 ((dn ++ [(x.drop f).take (k - f)]).map txt) := by
            rw [List.map_append, List.map_singleton, ← ext_txt]
            exact h2
          have H2 := hide h2'
          have HB2 := hide ((HB.out.alloc hsb _).trans b2)
          have HC2 := hide (cut_hit HC.out HY.out)
          clear h2 h2' b2 HVA HSRC HSL HV
          go_wp2_with fail
          go_roundw
          case rel => exact ⟨v2, k + 1, k + 1, dn ++ [(x.drop f).take (k - f)], rfl, by simp, by simp, by omega, by simp; omega, HC2, H2, HB2⟩
          case measure => simp [intOf] <;> omega
        · have hne : ¬ (y.toNat : Int) = (c.toNat : Int) := fun e => hyc (UInt8.toNat_inj.1 (by omega))
          have hb1 : ((k : Int) == (n : Int)) = false := beq_eq_false_iff_ne.2 hkn'
          have hb2 : ((y.toNat : Int) == (c.toNat : Int)) = false := beq_eq_false_iff_ne.2 hne
          have HC2 := hide (cut_miss HC.out hy hyc)
          clear hy
          go_wp2_with fail
          go_roundw
          case rel => exact ⟨v, k + 1, f, dn, rfl, by simp, rfl, by omega, by omega, HC2, HV, HB⟩
          case measure => simp [intOf] <;> omega
    · have hkn : k = n + 1 := by omega
      subst hkn
      have HD : Hid (dn = spl c x) := hide (cut_done HC.out (by have := HL.out; omega))
      have hle : ¬ ((n : Int) + 1 ≤ (n : Int)) := by omega
      obtain ⟨A9, c9, rfl, hr9⟩ := HV.out.row
      rw [List.length_map] at hr9 ⊢
      have HR9 := hide (hr9.more (ok' := fun _ => True) fun _ _ => trivial)
      clear hr9
      go_wp2_with fail
      go_ret
      exact ⟨A9, _, c9, rfl, by rw [← HD.out]; exact HR9.out, HB.out⟩
end Go.Proofs.YtckcadhjpjjmjaaDoor
namespace Go.Proofs.YtckcadhjpjjmjaaDoor
open Go.RowKit
set_option maxRecDepth 100000 in
set_option maxHeartbeats 3200000 in
theorem c_pieces (x : List UInt8) (w : World) (hx : x.length ≤ 1000000) :
    Calls Tryd.prog 57 #[.string (txt x)] w (TextsR w (spl 47 x)) := by
  have hsz : (txt x).size = x.length := txt_size x
  obtain ⟨n, hn⟩ : ∃ n, x.length = n := ⟨_, rfl⟩
  rw [hn] at hsz hx
  have HL := hide hn
  have HO : Hid (kStr.Own (fun _ => True) w.heap.size (w.alloc (.cells #[] 9)) 9 (.slice (some ⟨w.heap.size, 0, none⟩) 0 0) []) := hide (Kd.Own.lit (.nil _ _ _) #[] rfl 0 rfl (Nat.zero_le _) _ rfl (Nat.le_refl _))
  clear hn
  go_enter Tryd.func57, Tryd.ntmps57
  go_wp2_with fail
  go_loopw [3, 4, 5] (fun v fv iv wr => ∃ (V : Value) (k f : Nat) (dn : List (List UInt8)), V = v ∧ iv = .int .i64 (k : Int) ∧ fv = .int .i64 (f : Int) ∧ k ≤ n + 1 ∧ dn.length ≤ k ∧ Hid (Cut 47 x k f dn) ∧ Hid (kStr.Own (fun _ => True) w.heap.size wr 9 v (dn.map txt)) ∧ Hid (Below w.heap.size w wr)) (fun _ _ i _ => n + 2 - (intOf i).toNat)
  case atStart => exact ⟨_, 0, 0, [], rfl, rfl, rfl, Nat.zero_le _, Nat.le_refl _, hide (cut_zero 47 x), HO, hide ((Below.refl _ _).alloc (Nat.le_refl _) _)⟩
  case round =>
    obtain ⟨v, k, f, dn, rfl, rfl, rfl, hk, hdn, HC, HV, HB⟩ := hrel
    have hsb := HB.out.size
    by_cases hlt : k ≤ n
    · have hfk := cut_from HC.out (by have := HL.out; omega)
      by_cases hkn : k = n
      · subst hkn
        have HSL : Hid (((txt x).extract f k).size ≤ maxLen) := hide (by rw [ext_txt, txt_size, List.length_take, List.length_drop]; have := HL.out; simp only [maxLen]; omega)
        have HVA : Hid (kStr.App (fun _ => True) w.heap.size (wr.alloc (.cells #[.string ((txt x).extract f k)] 9)) 9 v (dn.map txt)) := hide ((show kStr.App (fun _ => True) w.heap.size wr 9 v (dn.map txt) from .inl HV.out).alloc hsb _)
        have HSRC : Hid (kStr.Src (fun j => True ∧ some j ≠ v.ownBlock) (wr.alloc (.cells #[.string ((txt x).extract f k)] 9)) (some ⟨wr.heap.size, 0, none⟩) 1 [(txt x).extract f k]) := hide (Kd.Src.new (d := kStr) (show kStr.K (fun j => True ∧ some j ≠ v.ownBlock) wr ((txt x).extract f k) [.string ((txt x).extract f k)] from ⟨rfl, HSL.out⟩) _ rfl _ rfl)
        go_wp2_with (at_builtin; go_loud (refine wpList_app (d := kStr) (ok := fun _ => True) (base := w.heap.size) rfl _ _ _ rfl Tryd.underlying22 str_inf rfl (by decide) 1 rfl rfl HVA.out HSRC.out ?_ ?_ ?_ ?_))
        · simp only [World.size_alloc]; omega
        · rw [List.length_map]; simp only [maxLen]; omega
        · rw [List.length_map]; omega
        intro v2 w2 _ h2 b2 _ _
        have h2' : kStr.Own (fun _ => True) w.heap.size w2 9 v2 ((dn ++ [(x.drop f).take (k - f)]).map txt) := by
          rw [List.map_append, List.map_singleton, ← ext_txt]
          exact h2
        have H2 := hide h2'
        have HB2 := hide ((HB.out.alloc hsb _).trans b2)
        have HC2 := hide (show Cut 47 x (k + 1) (k + 1) (dn ++ [(x.drop f).take (k - f)]) from by have e := HL.out; subst e; exact cut_end HC.out)
        clear h2 h2' b2 HVA HSRC HSL HV
        go_wp2_with fail
        go_roundw
        case rel => exact ⟨v2, k + 1, k + 1, dn ++ [(x.drop f).take (k - f)], rfl, by simp, by simp, by omega, by simp; omega, HC2, H2, HB2⟩
        case measure => simp [intOf] <;> omega
      · obtain ⟨y, hy⟩ : ∃ y, x[k]? = some y := ⟨_, List.getElem?_eq_getElem (by have := HL.out; omega)⟩
        have hix := txt_byte (P := Tryd.prog) Tryd.underlying9 hy .i64
        have hkn' : ¬ (k : Int) = (n : Int) := by omega
        by_cases hyc : y = 47
        · have HY := hide (hyc ▸ hy)
          have hb1 : ((k : Int) == (n : Int)) = false := beq_eq_false_iff_ne.2 hkn'
          have hb2 : ((y.toNat : Int) == 47) = true := by rw [hyc]; rfl
          clear hy hyc
          have HSL : Hid (((txt x).extract f k).size ≤ maxLen) := hide (by rw [ext_txt, txt_size, List.length_take, List.length_drop]; have := HL.out; simp only [maxLen]; omega)
          have HVA : Hid (kStr.App (fun _ => True) w.heap.size (wr.alloc (.cells #[.string ((txt x).extract f k)] 9)) 9 v (dn.map txt)) := hide ((show kStr.App (fun _ => True) w.heap.size wr 9 v (dn.map txt) from .inl HV.out).alloc hsb _)
          have HSRC : Hid (kStr.Src (fun j => True ∧ some j ≠ v.ownBlock) (wr.alloc (.cells #[.string ((txt x).extract f k)] 9)) (some ⟨wr.heap.size, 0, none⟩) 1 [(txt x).extract f k]) := hide (Kd.Src.new (d := kStr) (show kStr.K (fun j => True ∧ some j ≠ v.ownBlock) wr ((txt x).extract f k) [.string ((txt x).extract f k)] from ⟨rfl, HSL.out⟩) _ rfl _ rfl)
          go_wp2_with (at_builtin; go_loud (refine wpList_app (d := kStr) (ok := fun _ => True) (base := w.heap.size) rfl _ _ _ rfl Tryd.underlying22 str_inf rfl (by decide) 1 rfl rfl HVA.out HSRC.out ?_ ?_ ?_ ?_))
          · simp only [World.size_alloc]; omega
          · rw [List.length_map]; simp only [maxLen]; omega
          · rw [List.length_map]; omega
          intro v2 w2 _ h2 b2 _ _
          have h2' : kStr.Own (fun _ => True) w.heap.size w2 9 v2 ((dn ++ [(x.drop f).take (k - f)]).map txt) := by
            rw [List.map_append, List.map_singleton, ← ext_txt]
            exact h2
          have H2 := hide h2'
          have HB2 := hide ((HB.out.alloc hsb _).trans b2)
          have HC2 := hide (cut_hit HC.out HY.out)
          clear h2 h2' b2 HVA HSRC HSL HV
          go_wp2_with fail
          go_roundw
          case rel => exact ⟨v2, k + 1, k + 1, dn ++ [(x.drop f).take (k - f)], rfl, by simp, by simp, by omega, by simp; omega, HC2, H2, HB2⟩
          case measure => simp [intOf] <;> omega
        · have hne : ¬ (y.toNat : Int) = 47 := fun e => hyc (UInt8.toNat_inj.1 (show y.toNat = 47 by omega))
          have hb1 : ((k : Int) == (n : Int)) = false := beq_eq_false_iff_ne.2 hkn'
          have hb2 : ((y.toNat : Int) == 47) = false := beq_eq_false_iff_ne.2 hne
          have HC2 := hide (cut_miss HC.out hy hyc)
          clear hy
          go_wp2_with fail
          go_roundw
          case rel => exact ⟨v, k + 1, f, dn, rfl, by simp, rfl, by omega, by omega, HC2, HV, HB⟩
          case measure => simp [intOf] <;> omega
    · have hkn : k = n + 1 := by omega
      subst hkn
      have HD : Hid (dn = spl 47 x) := hide (cut_done HC.out (by have := HL.out; omega))
      have hle : ¬ ((n : Int) + 1 ≤ (n : Int)) := by omega
      obtain ⟨A9, c9, rfl, hr9⟩ := HV.out.row
      rw [List.length_map] at hr9 ⊢
      have HR9 := hide (hr9.more (ok' := fun _ => True) fun _ _ => trivial)
      clear hr9
      go_wp2_with fail
      go_ret
      exact ⟨A9, _, c9, rfl, by rw [← HD.out]; exact HR9.out, HB.out⟩
theorem kStr_src {ok ok' : Nat → Prop} {w : World} {A : Option Addr} {m : Nat} {ys : List ByteArray} (h : kStr.Src ok w A m ys) : kStr.Src ok' w A m ys := by
  obtain ⟨h1, css, he, hc⟩ := h
  exact ⟨h1, css, ⟨he.1, fun i x cs hx hcs => he.2 i x cs hx hcs⟩, hc⟩
theorem joinTail_cons (x : List UInt8) (l : List (List UInt8)) : Lib.joinTail [47] (x :: l) = 47 :: Lib.join (x :: l) [47] := by
  rw [Lib.join_cons]; simp [Lib.joinTail]
theorem joinTail_snoc (x : List UInt8) (l : List (List UInt8)) : Lib.joinTail [47] (l ++ [x]) = Lib.joinTail [47] l ++ 47 :: x := by simp [Lib.joinTail]
theorem tail_take (l : List (List UInt8)) (k : Nat) : (Lib.joinTail [47] (l.take k)).length ≤ (Lib.joinTail [47] l).length := Lib.joinTail_take_le _ _ _
/-- A cut path: what is behind the first slash. -/
theorem norm_cons (y : List UInt8) : normB (47 :: y) = match foldP [] (spl 47 y) with
    | some l => if (47 :: Lib.join l [47]).length ≤ 256 then (47 :: Lib.join l [47], true) else ([], false)
    | none => ([], false) := by
  have e : cutP (47 :: y) = (y, true) := by rw [cutP, if_pos rfl]
  unfold normB
  rw [e]
  rfl
theorem norm_off {b : UInt8} (h : ¬ b = 47) (t : List UInt8) : normB (b :: t) = ([], false) := by
  have e : cutP (b :: t) = (b :: t, false) := by rw [cutP, if_neg h]
  unfold normB
  rw [e]
  rfl
theorem fold_off {y : List UInt8} {k : Nat} {l : List (List UInt8)} {q : List UInt8} (h : foldP [] ((spl 47 y).take k) = some l) (hq : (spl 47 y)[k]? = some q) : foldP [] ((spl 47 y).take (k + 1)) = stepP l q := by
  rw [List.take_add_one, hq, foldP_append, h]
  show (stepP l q).bind (fun m => some m) = _
  cases stepP l q <;> rfl
theorem fold_none {y : List UInt8} {k : Nat} (h : foldP [] ((spl 47 y).take k) = none) : foldP [] (spl 47 y) = none := by
  rw [← List.take_append_drop k (spl 47 y), foldP_append, h]; rfl
set_option maxRecDepth 100000 in
set_option maxHeartbeats 3200000 in
theorem c_rnormal (x : List UInt8) (w : World) (hx : x.length ≤ 1000000) : Calls Tryd.prog 25 #[.string (txt x)] w (NormR x w) := by
  have hz := txt_size x
  cases x with
  | nil =>
    go_enter Tryd.func25, Tryd.ntmps25
    go_wp2_with fail
    exact bodyPost_ret (v := .tuple #[.string ⟨#[]⟩, .bool false]) (by simp [results, Tryd.results25, go_sem]) rfl ⟨rfl, Below.refl _ _⟩
  | cons b y =>
    have hix := txt_byte (P := Tryd.prog) Tryd.underlying9 (s := b :: y) (k := 0) (y := b) rfl .i64
    rw [List.length_cons] at hz hx
    obtain ⟨m, hm⟩ : ∃ m, y.length = m := ⟨_, rfl⟩
    rw [hm] at hz hx
    have hix0 : ∀ wx : World, (Instr.index 9 (.string (txt (b :: y))) (.int .i64 0)).run Tryd.prog wx = .ok (bv b) wx := hix
    clear hix
    by_cases hb : b = 47
    · subst hb
      have HN := hide (norm_cons y)
      have HM := hide hm
      have HE : Hid ((txt (47 :: y)).extract 1 (m + 1) = txt y) := hide (by rw [ext_txt, ← hm]; simp)
      have h47 : ((UInt8.toNat 47 : Int) == 47) = true := rfl
      clear hm
      go_enter Tryd.func25, Tryd.ntmps25
      go_wp2_with fail
      have HB1 : Hid (Below w.heap.size w (w.alloc (.cells #[] 9))) := hide ((Below.refl _ _).alloc (Nat.le_refl _) _)
      have HL0 : Hid (kStr.Row (fun _ => True) (w.alloc (.cells #[] 9)) (some ⟨w.heap.size, 0, none⟩) 0 0 []) := hide (by
        have h : kStr.Own (fun _ => True) w.heap.size (w.alloc (.cells #[] 9)) 9 (.slice (some ⟨w.heap.size, 0, none⟩) 0 0) [] := Kd.Own.lit (.nil _ _ _) #[] rfl 0 rfl (Nat.zero_le _) _ rfl (Nat.le_refl _)
        obtain ⟨A, c, e, h2⟩ := h.row
        obtain ⟨rfl, -, rfl⟩ := Value.slice.inj e
        exact h2.more fun _ _ => trivial)
      rw [HE.out]
      refine (c_pieces y _ (by rw [HM.out]; omega)).mono ?_
      rintro e w2 ⟨Ap, n, cp, rfl, hP, b2⟩
      have hn : (spl 47 y).length = n := by rw [← hP.1, List.length_map]
      have hnm : n ≤ m + 1 := by
        rw [← hn, spl_len]
        have := List.count_le_length (a := (47 : UInt8)) (l := y)
        rw [HM.out] at this; omega
      have HP := hide hP
      have HNN := hide hn
      have HB0 := hide (HB1.out.trans (b2.mono HB1.out.size))
      have HL1 := hide (HL0.out.below b2)
      clear hP hn b2
      go_wp2_with fail
      go_loopw [4, 6, 23] (fun lv wv iv wr => ∃ (L W6 : Value) (k : Nat) (l : List (List UInt8)) (A : Option Addr) (c : Nat), L = lv ∧ W6 = wv ∧ L = .slice A l.length c ∧ iv = .int .i64 (k : Int) ∧ k ≤ n ∧ Hid (foldP [] ((spl 47 y).take k) = some l) ∧ Hid (kStr.Row (fun _ => True) wr A l.length c (l.map txt)) ∧ Hid (Below w2.heap.size w2 wr)) (fun _ _ iv _ => n - (intOf iv).toNat)
      case atStart => exact ⟨_, _, 0, [], _, _, rfl, rfl, rfl, rfl, Nat.zero_le _, hide rfl, HL1, hide (Below.refl _ _)⟩
      case round =>
        obtain ⟨L, W6, k, l, A, c, rfl, rfl, rfl, rfl, hk, HF, HR, HB⟩ := hrel
        have hll : l.length ≤ k := by
          have h1 := foldP_len HF.out
          rw [List.length_take] at h1
          simp only [List.length_nil] at h1
          omega
        by_cases hlt : k < n
        · obtain ⟨q, hq⟩ : ∃ q, (spl 47 y)[k]? = some q := ⟨_, List.getElem?_eq_getElem (by rw [HNN.out]; exact hlt)⟩
          have hq2 : ((spl 47 y).map txt)[k]? = some (txt q) := by rw [List.getElem?_map, hq]; rfl
          obtain ⟨p, o, hiq, hcq, -, hsq⟩ := row_str (h := HP.out.below HB.out) hq2
          have HS := hide (fold_off HF.out hq)
          clear hq hq2
          by_cases h0 : q = []
          · subst h0
            have HS1 : Hid (foldP [] ((spl 47 y).take (k + 1)) = some l) := hide (by rw [HS.out]; rfl)
            go_wp2_with fail
            go_roundw
            case rel => exact ⟨_, _, k + 1, l, A, c, rfl, rfl, rfl, by simp, by omega, HS1, HR, HB⟩
            case measure => simp [intOf] <;> omega
          · have h0' : (q == []) = false := beq_eq_false_iff_ne.2 h0
            by_cases h1 : q = [46]
            · subst h1
              have HS1 : Hid (foldP [] ((spl 47 y).take (k + 1)) = some l) := hide (by rw [HS.out]; rfl)
              go_wp2_with fail
              go_roundw
              case rel => exact ⟨_, _, k + 1, l, A, c, rfl, rfl, rfl, by simp, by omega, HS1, HR, HB⟩
              case measure => simp [intOf] <;> omega
            · have h1' : (q == [46]) = false := beq_eq_false_iff_ne.2 h1
              by_cases h2 : q = [46, 46]
              · subst h2
                by_cases h3 : l.length = 0
                · have h3' : ((l.length : Int) == 0) = true := beq_iff_eq.2 (by omega)
                  have HZ : Hid (normB (47 :: y) = ([], false)) := hide (by rw [HN.out, fold_none (k := k + 1) (by rw [HS.out, stepP, if_neg (by decide), if_neg (by omega), if_neg (by decide)])])
                  have HBW := hide (HB0.out.trans (HB.out.mono HB0.out.size))
                  go_wp2_with fail
                  exact bodyPost_ret (v := .tuple #[.string ⟨#[]⟩, .bool false]) (by simp [results, Tryd.results25, go_sem]) rfl ⟨by rw [HZ.out], HBW.out⟩
                · have h3' : ((l.length : Int) == 0) = false := beq_eq_false_iff_ne.2 (by omega)
                  obtain ⟨hsl, hrow⟩ := HR.out.upto (P := Tryd.prog) Tryd.underlying22 str_info (k := l.length - 1) (by omega) .i64 ((l.length : Int) - 1) (by omega)
                  have HR2 : Hid (kStr.Row (fun _ => True) wr A (l.take (l.length - 1)).length c ((l.take (l.length - 1)).map txt)) := hide (by
                    rw [List.map_take, List.length_take, Nat.min_eq_left (by omega)]; exact hrow)
                  have HLL : Hid (l.length - 1 = (l.take (l.length - 1)).length) := hide (by rw [List.length_take, Nat.min_eq_left (by omega)])
                  have HS1 : Hid (foldP [] ((spl 47 y).take (k + 1)) = some (l.take (l.length - 1))) := hide (by rw [HS.out, stepP, if_neg (by decide), if_pos ⟨rfl, by omega⟩])
                  clear hrow
                  go_wp2_with fail
                  go_roundw
                  case rel => exact ⟨_, _, k + 1, l.take (l.length - 1), A, c, rfl, rfl, by rw [← HLL.out], by simp, by omega, HS1, HR2, HB⟩
                  case measure => simp [intOf] <;> omega
              · have h2' : (q == [46, 46]) = false := beq_eq_false_iff_ne.2 h2
                have HS2 : Hid (stepP l q = if nmP q = true then some (l ++ [q]) else none) := hide (by rw [stepP, if_neg (by simp [h0, h1]), if_neg (fun h => h2 h.1)])
                cases hn : nmP q with
                | false =>
                  have HZ : Hid (normB (47 :: y) = ([], false)) := hide (by rw [HN.out, fold_none (k := k + 1) (by rw [HS.out, HS2.out, if_neg (by rw [hn]; simp)])])
                  have HBW := hide (HB0.out.trans (HB.out.mono HB0.out.size))
                  have HNM := hide hn
                  clear hn
                  go_wp2_with fail
                  refine (c_rnm q _).mono ?_
                  rintro e w3 ⟨rfl, rfl⟩
                  rw [HNM.out]
                  go_wp2_with fail
                  exact bodyPost_ret (v := .tuple #[.string ⟨#[]⟩, .bool false]) (by simp [results, Tryd.results25, go_sem]) rfl ⟨by rw [HZ.out], HBW.out⟩
                | true =>
                  have HS1 : Hid (foldP [] ((spl 47 y).take (k + 1)) = some (l ++ [q])) := hide (by rw [HS.out, HS2.out, if_pos hn])
                  have HNM := hide hn
                  clear hn
                  go_wp2_with fail
                  refine (c_rnm q _).mono ?_
                  rintro e w3 ⟨rfl, rfl⟩
                  rw [HNM.out]
                  have hsb := HB.out.size
                  have HO1 : Hid (kStr.Own (fun _ => True) w2.heap.size (w3.alloc (.cells #[] 9)) 9 (.slice (some ⟨w3.heap.size, 0, none⟩) 0 0) []) := hide (Kd.Own.lit (.nil _ _ _) #[] rfl 0 rfl (Nat.zero_le _) _ rfl hsb)
                  have HVA1 : Hid (kStr.App (fun _ => True) w2.heap.size (w3.alloc (.cells #[] 9)) 9 (.slice (some ⟨w3.heap.size, 0, none⟩) 0 0) []) := hide (.inl HO1.out)
                  have HSRC1 : Hid (kStr.Src (fun j => True ∧ some j ≠ (Value.slice (some ⟨w3.heap.size, 0, none⟩) 0 0).ownBlock) (w3.alloc (.cells #[] 9)) A l.length (l.map txt)) := hide (kStr_src (HR.out.below ((Below.refl _ w3).alloc (Nat.le_refl _) _)).src)
                  go_wp2_with (at_builtin; go_loud (refine wpList_app (d := kStr) (ok := fun _ => True) (base := w2.heap.size) rfl _ _ _ rfl Tryd.underlying22 str_inf rfl (by decide) c rfl rfl HVA1.out HSRC1.out ?_ ?_ ?_ ?_))
                  · simp only [World.size_alloc]; omega
                  · simp only [List.length_nil, maxLen]; omega
                  · simp only [List.length_nil]; omega
                  intro v4 w4 _ h4 b4 _ _
                  have h4' : kStr.Own (fun _ => True) w2.heap.size w4 9 v4 (l.map txt) := h4 (.inr HO1.out)
                  obtain ⟨A4, c4, rfl⟩ := h4'.form
                  rw [List.length_map] at h4' ⊢
                  have HO4 := hide h4'
                  have HB4 := hide ((HB.out.alloc hsb (.cells #[] 9)).trans b4)
                  have hs4 := HB4.out.size
                  clear h4 h4' b4 HVA1 HSRC1
                  have HVA2 : Hid (kStr.App (fun _ => True) w2.heap.size (w4.alloc (.cells #[.string (txt q)] 9)) 9 (.slice A4 l.length c4) (l.map txt)) := hide ((show kStr.App (fun _ => True) w2.heap.size w4 9 (.slice A4 l.length c4) (l.map txt) from .inl HO4.out).alloc hs4 _)
                  have HSRC2 : Hid (kStr.Src (fun j => True ∧ some j ≠ (Value.slice A4 l.length c4).ownBlock) (w4.alloc (.cells #[.string (txt q)] 9)) (some ⟨w4.heap.size, 0, none⟩) 1 [txt q]) := hide (Kd.Src.new (d := kStr) (show kStr.K (fun j => True ∧ some j ≠ (Value.slice A4 l.length c4).ownBlock) w4 (txt q) [.string (txt q)] from ⟨rfl, hsq⟩) _ rfl _ rfl)
                  go_wp2_with (at_builtin; go_loud (refine wpList_app (d := kStr) (ok := fun _ => True) (base := w2.heap.size) rfl _ _ _ rfl Tryd.underlying22 str_inf rfl (by decide) 1 rfl rfl HVA2.out HSRC2.out ?_ ?_ ?_ ?_))
                  · simp only [World.size_alloc]; omega
                  · rw [List.length_map]; simp only [maxLen]; omega
                  · rw [List.length_map]; omega
                  intro v5 w5 _ h5 b5 _ _
                  have h5' : kStr.Own (fun _ => True) w2.heap.size w5 9 v5 ((l ++ [q]).map txt) := by
                    rw [List.map_append, List.map_singleton]
                    exact h5
                  obtain ⟨A5, c5, rfl, hr5⟩ := h5'.row
                  rw [List.length_map] at hr5 ⊢
                  have HR5 := hide (hr5.more (ok' := fun _ => True) fun _ _ => trivial)
                  have HB5 := hide ((HB4.out.alloc hs4 (.cells #[.string (txt q)] 9)).trans b5)
                  clear h5 h5' b5 hr5 HVA2 HSRC2
                  go_wp2_with fail
                  go_roundw
                  case rel => exact ⟨_, _, k + 1, l ++ [q], A5, c5, rfl, rfl, rfl, by simp, by omega, HS1, HR5, HB5⟩
                  case measure => simp [intOf] <;> omega
        · obtain rfl : k = n := by omega
          have HFF : Hid (foldP [] (spl 47 y) = some l) := hide (by have h := HF.out; rwa [List.take_of_length_le (by rw [HNN.out]; exact Nat.le_refl _)] at h)
          have HBW := hide (HB0.out.trans (HB.out.mono HB0.out.size))
          have HT : Hid ((Lib.joinTail [47] l).length ≤ 65000065) := hide (by
            have h1 := tail_len 47 l (fun x hx => nm_len (foldP_nm HFF.out (fun x h => absurd h (by simp)) x hx))
            omega)
          go_wp2_with fail
          go_loopw [7, 9, 55] (fun pv wv iv wr2 => ∃ (W9 : Value) (j : Nat) (pq : List UInt8), W9 = wv ∧ pv = .string (txt pq) ∧ iv = .int .i64 (j : Int) ∧ j ≤ l.length ∧ Hid (pq = Lib.joinTail [47] (l.take j)) ∧ wr2 = wr) (fun _ _ iv _ => l.length - (intOf iv).toNat)
          case atStart => exact ⟨_, 0, [], rfl, rfl, rfl, Nat.zero_le _, hide rfl, rfl⟩
          case round =>
            obtain ⟨W9, j, pq, rfl, rfl, rfl, hj, HPQ, rfl⟩ := hrel
            by_cases hjl : j < l.length
            · obtain ⟨q, hq⟩ : ∃ q, l[j]? = some q := ⟨_, List.getElem?_eq_getElem hjl⟩
              have hq2 : (l.map txt)[j]? = some (txt q) := by rw [List.getElem?_map, hq]; rfl
              obtain ⟨p, o, hiq, hcq, -, hsq⟩ := row_str (h := HR.out) hq2
              have HQ : Hid (pq ++ 47 :: q = Lib.joinTail [47] (l.take (j + 1))) := hide (by rw [List.take_add_one, hq, HPQ.out]; exact (joinTail_snoc q _).symm)
              have HQL : Hid ((pq ++ 47 :: q).length ≤ 65000065) := hide (by rw [HQ.out]; exact Nat.le_trans (tail_take l _) HT.out)
              have hs1y : ¬ 9223372036854775807 < 1 + q.length := by have := HQL.out; simp only [List.length_append, List.length_cons] at this; omega
              have hs2y : ¬ 9223372036854775807 < pq.length + (1 + q.length) := by have := HQL.out; simp only [List.length_append, List.length_cons] at this; omega
              clear hq hq2
              go_wp2_with fail
              go_roundw
              case rel => exact ⟨_, j + 1, pq ++ 47 :: q, rfl, by rw [show ({ data := #[47] } : ByteArray) = txt [47] from rfl, txt_app2, txt_app2]; rfl, by simp, by omega, HQ, trivial⟩
              case measure => simp [intOf] <;> omega
            · obtain rfl : j = l.length := by omega
              have hp9 : pq = Lib.joinTail [47] l := by rw [HPQ.out, List.take_length]
              have hz9 := txt_size pq
              cases l with
              | nil =>
                obtain rfl : pq = [] := hp9
                have HZ : Hid (normB (47 :: y) = ([47], true)) := hide (by rw [HN.out, HFF.out]; rfl)
                go_wp2_with fail
                exact bodyPost_ret (v := .tuple #[.string ⟨#[47]⟩, .bool true]) (by simp [results, Tryd.results25, go_sem]) rfl ⟨by rw [HZ.out], HBW.out⟩
              | cons a l =>
                rw [joinTail_cons] at hp9
                have hpn : (pq == []) = false := by rw [hp9]; rfl
                have HZ1 := hide hp9
                obtain ⟨s, hs⟩ : ∃ s, pq.length = s := ⟨_, rfl⟩
                rw [hs] at hz9
                have HSZ := hide hs
                clear hp9 hs
                by_cases h256 : s ≤ 256
                · have HZ : Hid (normB (47 :: y) = (pq, true)) := hide (by
                    rw [HN.out, HFF.out]
                    show (if (47 :: Lib.join (a :: l) [47]).length ≤ 256 then (47 :: Lib.join (a :: l) [47], true) else ([], false)) = _
                    rw [← HZ1.out, if_pos (by rw [HSZ.out]; exact h256)])
                  have h256' : ¬ (256 : Int) < (s : Int) := by omega
                  go_wp2_with fail
                  exact bodyPost_ret (v := .tuple #[.string (txt pq), .bool true]) (by simp [results, Tryd.results25, go_sem]) rfl ⟨by rw [HZ.out], HBW.out⟩
                · have HZ : Hid (normB (47 :: y) = ([], false)) := hide (by
                    rw [HN.out, HFF.out]
                    show (if (47 :: Lib.join (a :: l) [47]).length ≤ 256 then (47 :: Lib.join (a :: l) [47], true) else ([], false)) = _
                    rw [← HZ1.out, if_neg (by rw [HSZ.out]; exact h256)])
                  have h256' : (256 : Int) < (s : Int) := by omega
                  go_wp2_with fail
                  exact bodyPost_ret (v := .tuple #[.string ⟨#[]⟩, .bool false]) (by simp [results, Tryd.results25, go_sem]) rfl ⟨by rw [HZ.out], HBW.out⟩
    · have HN := hide (norm_off hb y)
      have hb' : ((b.toNat : Int) != 47) = true := by rw [bne, beq_eq_false_iff_ne.2 (fun e => hb (UInt8.toNat_inj.1 (show b.toNat = 47 by omega)))]; rfl
      have hm0 : ((m : Int) + 1 == 0) = false := beq_eq_false_iff_ne.2 (by omega)
      clear hm
      go_enter Tryd.func25, Tryd.ntmps25
      go_wp2_with fail
      exact bodyPost_ret (v := .tuple #[.string ⟨#[]⟩, .bool false]) (by simp [results, Tryd.results25, go_sem]) rfl ⟨by rw [HN.out], Below.refl _ _⟩
end Go.Proofs.YtckcadhjpjjmjaaDoor
namespace Go.Proofs.YtckcadhjpjjmjaaDoor
open Go.RowKit
theorem spl_app (c : UInt8) (t : List UInt8) : ∀ s : List UInt8, spl c (s ++ c :: t) = spl c s ++ spl c t
  | [] => by
    show spl c (c :: t) = [] :: spl c t
    conv => lhs; unfold spl
    rw [if_pos rfl]
  | b :: s => by
    have ih := spl_app c t s
    rw [List.cons_append, spl, spl, ih]
    by_cases hb : b = c
    · rw [if_pos hb, if_pos hb, List.cons_append]
    · rw [if_neg hb, if_neg hb]
      cases hs : spl c s with
      | nil => exact absurd hs (spl_ne c s)
      | cons h r => rfl
theorem join_spl (c : UInt8) : ∀ s : List UInt8, Lib.join (spl c s) [c] = s
  | [] => by rw [spl, Lib.join_one]
  | b :: s => by
    have ih := join_spl c s
    rw [spl]
    cases hs : spl c s with
    | nil => exact absurd hs (spl_ne c s)
    | cons h r =>
      rw [hs] at ih
      by_cases hb : b = c
      · rw [if_pos hb, Lib.join_cons]
        have e : Lib.joinTail [c] (h :: r) = c :: Lib.join (h :: r) [c] := by rw [Lib.join_cons]; simp [Lib.joinTail]
        rw [e, ih, hb]; rfl
      · rw [if_neg hb]
        show Lib.join ((b :: h) :: r) [c] = b :: s
        rw [Lib.join_cons] at ih ⊢
        rw [← ih]; rfl
theorem join_app (c : UInt8) (a r : List (List UInt8)) (ha : a ≠ []) (hr : r ≠ []) : Lib.join (a ++ r) [c] = Lib.join a [c] ++ c :: Lib.join r [c] := by
  cases a with
  | nil => exact absurd rfl ha
  | cons x a =>
    cases r with
    | nil => exact absurd rfl hr
    | cons y r =>
      rw [List.cons_append, Lib.join_cons, Lib.join_cons, Lib.join_cons]
      simp [Lib.joinTail]
/-- A path of names. -/
def pathOf (l : List (List UInt8)) : List UInt8 := 47 :: Lib.join l [47]
def Nms (l : List (List UInt8)) : Prop := ∀ x ∈ l, nmP x = true
theorem nm_slash {x : List UInt8} (h : nmP x = true) : (47 : UInt8) ∉ x := fun hm => by
  simp only [nmP, Bool.and_eq_true, List.all_eq_true] at h
  have := h.2 47 hm
  exact absurd this (by decide)
theorem nm_ne {x : List UInt8} (h : nmP x = true) : x ≠ [] ∧ x ≠ [46] ∧ x ≠ [46, 46] := by
  refine ⟨fun e => ?_, fun e => ?_, fun e => ?_⟩ <;> rw [e] at h <;> revert h <;> decide
theorem step_nm {l : List (List UInt8)} {x : List UInt8} (h : nmP x = true) : stepP l x = some (l ++ [x]) := by
  obtain ⟨h1, h2, h3⟩ := nm_ne h
  rw [stepP, if_neg (by simp [h1, h2]), if_neg (by simp [h3]), if_pos h]
theorem fold_nms : ∀ (l m : List (List UInt8)), Nms l → foldP m l = some (m ++ l)
  | [], m, _ => by rw [List.append_nil]; rfl
  | x :: l, m, h => by
    rw [foldP, step_nm (h x List.mem_cons_self)]
    show foldP (m ++ [x]) l = _
    rw [fold_nms l (m ++ [x]) (fun y hy => h y (List.mem_cons_of_mem _ hy)), List.append_assoc]; rfl
theorem spl_names {l : List (List UInt8)} (h : Nms l) (h0 : l ≠ []) : spl 47 (Lib.join l [47]) = l := spl_join 47 l h0 fun x hx => nm_slash (h x hx)
theorem norm_path {l : List (List UInt8)} (h : Nms l) (hl : (pathOf l).length ≤ 256) : normB (pathOf l) = (pathOf l, true) := by
  have hf : foldP [] (spl 47 (Lib.join l [47])) = some l := by
    by_cases h0 : l = []
    · rw [h0]; rfl
    · rw [spl_names h h0]
      have := fold_nms l [] h
      rwa [List.nil_append] at this
  rw [pathOf, norm_cons, hf]
  show (if (47 :: Lib.join l [47]).length ≤ 256 then (47 :: Lib.join l [47], true) else ([], false)) = _
  rw [if_pos (show (47 :: Lib.join l [47]).length ≤ 256 from hl)]
theorem norm_some {s x : List UInt8} (h : normB s = (x, true)) : ∃ l, Nms l ∧ x = pathOf l ∧ (pathOf l).length ≤ 256 := by
  unfold normB at h
  split at h
  · split at h
    · rename_i l hf
      split at h
      · rename_i hl
        exact ⟨l, foldP_nm hf (fun x h => absurd h (by simp)), (congrArg Prod.fst h).symm, hl⟩
      · exact absurd (congrArg Prod.snd h) (by simp)
    · exact absurd (congrArg Prod.snd h) (by simp)
  · exact absurd (congrArg Prod.snd h) (by simp)
theorem norm_no {s x : List UInt8} (h : normB s = (x, false)) : x = [] := by
  unfold normB at h
  split at h
  · split at h
    · split at h
      · exact absurd (congrArg Prod.snd h) (by simp)
      · exact (congrArg Prod.fst h).symm
    · exact (congrArg Prod.fst h).symm
  · exact (congrArg Prod.fst h).symm
/-- Is a path right? -/
def rightB (p : List UInt8) : Bool := (normB p).2 && (p == (normB p).1)
theorem right_iff (p : List UInt8) : rightB p = true ↔ ∃ l, Nms l ∧ p = pathOf l ∧ (pathOf l).length ≤ 256 := by
  constructor
  · intro h
    simp only [rightB, Bool.and_eq_true, beq_iff_eq] at h
    exact norm_some (s := p) (Prod.ext h.2.symm h.1)
  · rintro ⟨l, h1, rfl, h3⟩
    rw [rightB, norm_path h1 h3]
    simp
def rrightB (p : List UInt8) : Bool := p == [47] || (decide (p.length ≤ 256) && match p with
  | [] => false
  | b :: y => b == 47 && (spl 47 y).all nmP)
theorem right_eq (p : List UInt8) : rrightB p = rightB p := by
  rw [Bool.eq_iff_iff, right_iff]
  constructor
  · intro h
    rcases Bool.or_eq_true_iff.1 h with h | h
    · have : p = [47] := by simpa using h
      exact ⟨[], fun x hx => (by cases hx), this, by decide⟩
    · obtain ⟨h1, h2⟩ := Bool.and_eq_true_iff.1 h
      cases p with
      | nil => cases h2
      | cons b y =>
        obtain ⟨h3, h4⟩ := Bool.and_eq_true_iff.1 h2
        have hb : b = 47 := by simpa using h3
        refine ⟨spl 47 y, fun x hx => List.all_eq_true.1 h4 x hx, ?_, ?_⟩
        · rw [pathOf, join_spl, hb]
        · rw [pathOf, join_spl]
          have := of_decide_eq_true h1
          simpa using this
  · rintro ⟨l, h1, rfl, h3⟩
    by_cases h0 : l = []
    · rw [h0]; rfl
    · refine Bool.or_eq_true_iff.2 (.inr ?_)
      rw [decide_eq_true h3, Bool.true_and]
      show ((47 : UInt8) == 47 && (spl 47 (Lib.join l [47])).all nmP) = true
      rw [spl_names h1 h0]
      exact List.all_eq_true.2 h1
def pnamesB (p : List UInt8) : List (List UInt8) := if rightB p = true ∧ p ≠ [47] then spl 47 p.tail else []
theorem path_root {l : List (List UInt8)} (h : Nms l) : pathOf l = [47] ↔ l = [] := by
  constructor
  · intro e
    cases l with
    | nil => rfl
    | cons x l =>
      have h1 : Lib.join (x :: l) [47] = [] := by simpa [pathOf] using e
      rw [Lib.join_cons] at h1
      exact absurd (List.append_eq_nil_iff.1 h1).1 (nm_ne (h x List.mem_cons_self)).1
  · rintro rfl; rfl
theorem names_path {l : List (List UInt8)} (h : Nms l) (hl : (pathOf l).length ≤ 256) : pnamesB (pathOf l) = l := by
  have hr : rightB (pathOf l) = true := (right_iff _).2 ⟨l, h, rfl, hl⟩
  by_cases h0 : l = []
  · rw [h0]; rfl
  · rw [pnamesB, if_pos ⟨hr, fun e => h0 ((path_root h).1 e)⟩]
    exact spl_names h h0
def underB (t p : List UInt8) : Bool := rightB t && rightB p && (decide ((pnamesB t).length ≤ (pnamesB p).length) && (pnamesB t == (pnamesB p).take (pnamesB t).length))
def runderB (t p : List UInt8) : Bool := rightB t && rightB p && (t == [47] || (p == t) || (decide (t.length < p.length) && (p.take t.length == t) && (p[t.length]? == some 47)))
theorem pre_iff {a b : List (List UInt8)} : (decide (a.length ≤ b.length) && (a == b.take a.length)) = true ↔ a <+: b := by
  rw [Bool.and_eq_true, decide_eq_true_eq, beq_iff_eq]
  exact ⟨fun h => by rw [List.prefix_iff_eq_take]; exact h.2, fun h => ⟨h.length_le, List.prefix_iff_eq_take.1 h⟩⟩
theorem under_eq (t p : List UInt8) : underB t p = runderB t p := by
  cases ht : rightB t with
  | false => rw [underB, runderB, ht]; rfl
  | true =>
    cases hp : rightB p with
    | false => rw [underB, runderB, ht, hp]; rfl
    | true =>
      rw [underB, runderB, ht, hp]
      obtain ⟨a, ha, rfl, hal⟩ := (right_iff _).1 ht
      obtain ⟨b, hb, rfl, hbl⟩ := (right_iff _).1 hp
      rw [names_path ha hal, names_path hb hbl, Bool.true_and, Bool.true_and, Bool.true_and, Bool.eq_iff_iff, pre_iff]
      constructor
      · rintro ⟨r, rfl⟩
        by_cases h0 : a = []
        · rw [(path_root ha).2 h0]; rfl
        · by_cases h1 : r = []
          · rw [h1, List.append_nil]; simp
          · have e : pathOf (a ++ r) = pathOf a ++ 47 :: Lib.join r [47] := by rw [pathOf, join_app 47 a r h0 h1]; rfl
            rw [e]
            simp
      · intro h
        simp only [Bool.or_eq_true, Bool.and_eq_true, beq_iff_eq, decide_eq_true_eq] at h
        rcases h with (h | h) | ⟨⟨h1, h2⟩, h3⟩
        · rw [(path_root ha).1 h]; exact List.nil_prefix
        · have e := congrArg pnamesB h
          rw [names_path ha hal, names_path hb hbl] at e
          rw [e]; exact List.prefix_refl _
        · obtain ⟨z, hz⟩ : ∃ z, pathOf b = pathOf a ++ 47 :: z := by
            refine ⟨(pathOf b).drop ((pathOf a).length + 1), ?_⟩
            obtain ⟨h4, h5⟩ := List.getElem?_eq_some_iff.1 h3
            conv => lhs; rw [← List.take_append_drop (pathOf a).length (pathOf b), h2, List.drop_eq_getElem_cons h4, h5]
          have hz2 : Lib.join b [47] = Lib.join a [47] ++ 47 :: z := by
            have : 47 :: Lib.join b [47] = 47 :: (Lib.join a [47] ++ 47 :: z) := hz
            simpa using this
          have hb0 : b ≠ [] := fun e => by rw [e] at hz2; exact absurd hz2 (by rw [Lib.join_nil]; simp)
          have hs := spl_names hb hb0
          rw [hz2, spl_app] at hs
          by_cases h0 : a = []
          · rw [h0]; exact List.nil_prefix
          · rw [spl_names ha h0] at hs
            exact ⟨_, hs⟩
/-- The law without the document. -/
theorem under_self (p : List UInt8) : underB p p = rightB p := by
  rw [underB]
  cases rightB p with
  | false => rfl
  | true => simp
theorem under_root (p : List UInt8) : underB [47] p = rightB p := by
  have h1 : rightB [47] = true := by decide +kernel
  have h2 : pnamesB [47] = [] := by rw [pnamesB, if_neg (by simp)]
  rw [underB, h1, h2]
  simp
theorem under_pre {t p : List UInt8} (h : underB t p = true) : rightB t = true ∧ rightB p = true ∧ pnamesB t <+: pnamesB p := by
  rw [underB, Bool.and_eq_true, Bool.and_eq_true, pre_iff] at h
  exact ⟨h.1.1, h.1.2, h.2⟩
theorem under_anti {p q : List UInt8} (h : underB p q = true) (k : underB q p = true) : p = q := by
  obtain ⟨h1, h2, h3⟩ := under_pre h
  obtain ⟨-, -, k3⟩ := under_pre k
  obtain ⟨a, ha, rfl, hal⟩ := (right_iff _).1 h1
  obtain ⟨b, hb, rfl, hbl⟩ := (right_iff _).1 h2
  rw [names_path ha hal, names_path hb hbl] at h3 k3
  rw [h3.eq_of_length (Nat.le_antisymm h3.length_le k3.length_le)]
theorem under_trans {p q s : List UInt8} (h : underB p q = true) (k : underB q s = true) : underB p s = true := by
  obtain ⟨h1, h2, h3⟩ := under_pre h
  obtain ⟨-, k2, k3⟩ := under_pre k
  rw [underB, h1, k2, pre_iff.2 (h3.trans k3)]; rfl
theorem norm_again (p : List UInt8) : ((normB p).2 = false ∧ (normB p).1 = []) ∨ ((normB p).2 = true ∧ normB (normB p).1 = ((normB p).1, true) ∧ rightB (normB p).1 = true) := by
  cases h : (normB p).2 with
  | false => exact .inl ⟨rfl, norm_no (s := p) (x := (normB p).1) (Prod.ext rfl h)⟩
  | true =>
    obtain ⟨l, h1, h2, h3⟩ := norm_some (s := p) (x := (normB p).1) (Prod.ext rfl h)
    refine .inr ⟨rfl, ?_, ?_⟩
    · rw [h2]; exact norm_path h1 h3
    · rw [h2]; exact (right_iff _).2 ⟨l, h1, rfl, h3⟩
end Go.Proofs.YtckcadhjpjjmjaaDoor
namespace Go.Proofs.YtckcadhjpjjmjaaDoor
open Go.RowKit
theorem beq_txt (a b : List UInt8) : ((txt a).toList == (txt b).toList) = (a == b) := by
  rw [ByteArray.toList_eq, ByteArray.toList_eq]
set_option maxRecDepth 100000 in
set_option maxHeartbeats 1600000 in
theorem c_right (x : List UInt8) (w : World) (hx : x.length ≤ 1000000) : Calls Tryd.prog 26 #[.string (txt x)] w fun e w' => e = .returned (.bool (rightB x)) ∧ Below w.heap.size w w' := by
  have hc := c_normal x w hx
  unfold NormR at hc
  obtain ⟨o, ho⟩ : ∃ o, normB x = o := ⟨_, rfl⟩
  have HR : Hid (rightB x = (o.2 && (x == o.1))) := hide (by rw [rightB, ho])
  rw [ho] at hc
  have HC := hide hc
  obtain ⟨p, b⟩ := o
  clear ho hx hc
  go_enter Tryd.func26, Tryd.ntmps26
  go_wp2_with fail
  refine HC.out.mono ?_
  rintro e w1 ⟨rfl, b1⟩
  have HB := hide b1
  clear b1
  cases b with
  | false =>
    go_wp2_with fail
    go_ret
    exact ⟨by rw [HR.out]; rfl, HB.out⟩
  | true =>
    go_wp2_with fail
    go_ret
    exact ⟨by rw [HR.out]; simp, HB.out⟩
set_option maxRecDepth 100000 in
set_option maxHeartbeats 3200000 in
theorem c_rright (x : List UInt8) (w : World) (hx : x.length ≤ 1000000) : Calls Tryd.prog 27 #[.string (txt x)] w fun e w' => e = .returned (.bool (rightB x)) ∧ Below w.heap.size w w' := by
  have hz := txt_size x
  rw [← right_eq]
  by_cases h47 : x = [47]
  · subst h47
    go_enter Tryd.func27, Tryd.ntmps27
    go_wp2_with fail
    go_ret
    exact ⟨rfl, Below.refl _ _⟩
  · have h47' : (x == [47]) = false := beq_eq_false_iff_ne.2 h47
    by_cases h256 : x.length ≤ 256
    · cases x with
      | nil =>
        go_enter Tryd.func27, Tryd.ntmps27
        go_wp2_with fail
        go_ret
        exact ⟨rfl, Below.refl _ _⟩
      | cons b y =>
        have hix : ∀ wx : World, (Instr.index 9 (.string (txt (b :: y))) (.int .i64 0)).run Tryd.prog wx = .ok (bv b) wx := txt_byte (P := Tryd.prog) Tryd.underlying9 (s := b :: y) (k := 0) (y := b) rfl .i64
        rw [List.length_cons] at hz hx h256
        obtain ⟨m, hm⟩ : ∃ m, y.length = m := ⟨_, rfl⟩
        rw [hm] at hz hx h256
        have h256' : ¬ (256 : Int) < (m : Int) + 1 := by omega
        have hm0 : ((m : Int) + 1 == 0) = false := beq_eq_false_iff_ne.2 (by omega)
        by_cases hb : b = 47
        · have HQ : Hid (rrightB (b :: y) = (spl 47 y).all nmP) := hide (by
            rw [rrightB, h47', decide_eq_true (by rw [List.length_cons, hm]; exact h256)]
            show (b == 47 && (spl 47 y).all nmP) = _
            rw [hb]; rfl)
          have h47b : ((b.toNat : Int) == 47) = true := by rw [hb]; rfl
          have h47c : ((b.toNat : Int) != 47) = false := by rw [hb]; rfl
          have HM := hide hm
          have HE : Hid ((txt (b :: y)).extract 1 (m + 1) = txt y) := hide (by rw [ext_txt, ← hm]; simp)
          clear hm hb h47
          go_enter Tryd.func27, Tryd.ntmps27
          go_wp2_with fail
          rw [HE.out]
          refine (c_pieces y _ (by rw [HM.out]; omega)).mono ?_
          rintro e w2 ⟨Ap, n, cp, rfl, hP, b2⟩
          have hn : (spl 47 y).length = n := by rw [← hP.1, List.length_map]
          have HP := hide hP
          have HNN := hide hn
          have HB := hide b2
          have hn63 : n ≤ 9223372036854775807 := Nat.le_trans hP.2.1 hP.2.2.1
          clear hP hn b2
          go_wp2_with fail
          go_loopw [4, 24] (fun wv iv wr => ∃ (W4 : Value) (k : Nat), W4 = wv ∧ iv = .int .i64 (k : Int) ∧ k ≤ n ∧ Hid (((spl 47 y).take k).all nmP = true) ∧ wr = w2) (fun _ iv _ => n - (intOf iv).toNat)
          case atStart => exact ⟨_, 0, rfl, rfl, Nat.zero_le _, hide rfl, rfl⟩
          case round =>
            obtain ⟨W4, k, rfl, rfl, hk, HT, rfl⟩ := hrel
            by_cases hlt : k < n
            · obtain ⟨q, hq⟩ : ∃ q, (spl 47 y)[k]? = some q := ⟨_, List.getElem?_eq_getElem (by rw [HNN.out]; exact hlt)⟩
              have hq2 : ((spl 47 y).map txt)[k]? = some (txt q) := by rw [List.getElem?_map, hq]; rfl
              obtain ⟨p, o, hiq, hcq, -, hsq⟩ := row_str (h := HP.out) hq2
              have hT2 : ((spl 47 y).take (k + 1)).all nmP = nmP q := by
                rw [List.take_add_one, hq, List.all_append, HT.out, Bool.true_and]
                simp
              have hmem : q ∈ spl 47 y := List.mem_of_getElem? hq
              clear hq hq2
              go_wp2_with fail
              refine (c_rnm q _).mono ?_
              rintro e w3 ⟨rfl, rfl⟩
              cases hp : nmP q with
              | false =>
                have HF : Hid (rrightB (b :: y) = false) := hide (by rw [HQ.out]; exact List.all_eq_false.2 ⟨q, hmem, by simp [hp]⟩)
                clear hT2 hp hmem
                go_wp2_with fail
                go_ret
                exact ⟨by rw [HF.out]; rfl, HB.out⟩
              | true =>
                rw [hp] at hT2
                have HT2 := hide hT2
                clear hT2 hp hmem HT
                go_wp2_with fail
                go_roundw
                case rel => exact ⟨_, k + 1, rfl, by simp, by omega, HT2, trivial⟩
                case measure => simp [intOf] <;> omega
            · obtain rfl : k = n := by omega
              have HF : Hid (rrightB (b :: y) = true) := hide (by rw [HQ.out, ← HT.out, List.take_of_length_le (by rw [HNN.out]; exact Nat.le_refl _)])
              go_wp2_with fail
              go_ret
              exact ⟨by rw [HF.out]; rfl, HB.out⟩
        · have HF : Hid (rrightB (b :: y) = false) := hide (by
            rw [rrightB, h47']
            show (_ && (b == 47 && (spl 47 y).all nmP)) = _
            rw [beq_eq_false_iff_ne.2 hb, Bool.false_and, Bool.and_false])
          have hb' : ((b.toNat : Int) != 47) = true := by rw [bne, beq_eq_false_iff_ne.2 (fun e => hb (UInt8.toNat_inj.1 (show b.toNat = 47 by omega)))]; rfl
          clear hm h47
          go_enter Tryd.func27, Tryd.ntmps27
          go_wp2_with fail
          go_ret
          exact ⟨by rw [HF.out]; rfl, Below.refl _ _⟩
    · have HF : Hid (rrightB x = false) := hide (by unfold rrightB; rw [h47', decide_eq_false h256]; rfl)
      obtain ⟨m, hm⟩ : ∃ m, x.length = m := ⟨_, rfl⟩
      rw [hm] at hz hx h256
      have h256' : (256 : Int) < (m : Int) := by omega
      clear hm h47
      go_enter Tryd.func27, Tryd.ntmps27
      go_wp2_with fail
      go_ret
      exact ⟨by rw [HF.out]; rfl, Below.refl _ _⟩
/-- A text's pieces, by the library. -/
theorem c_psplit (x : List UInt8) (m : Int) (w : World) (hx : x.length ≤ 1000000) (hm : w.cell? ⟨5, 0, none⟩ = some (.int .i64 m)) :
    Calls Tryd.prog 50 #[.string (txt x), .string ⟨#[47]⟩] w (TextsR w (spl 47 x)) := by
  have hS := Tryd.strings_Split (txt x) ⟨#[47]⟩ m w (by rw [txt_size]; omega) hm (by decide)
  rw [count_eq, split_eq] at hS
  obtain ⟨l, hl0⟩ : ∃ l, spl 47 x = l := ⟨_, rfl⟩
  rw [hl0] at hS ⊢
  have hsz : ∀ s ∈ l.map txt, s.size ≤ maxLen := by
    intro s hs
    obtain ⟨p, hp, rfl⟩ := List.mem_map.1 hs
    have := spl_le 47 x p (by rw [hl0]; exact hp)
    rw [txt_size]; simp only [maxLen]; omega
  have hcnt : l.length ≤ 1000001 := by
    rw [← hl0, spl_len]; have := List.count_le_length (a := (47 : UInt8)) (l := x); omega
  refine hS.mono ?_
  rintro e w1 ⟨rfl, hw1⟩
  have h := strs_row (w := w1) (g := w.heap.size) (l.map txt) (by rw [hw1]; exact heap_alloc_new _ _) (by simp) hsz (by rw [List.length_map]; simp only [maxLen]; omega)
  rw [List.length_map] at h
  exact ⟨_, _, _, rfl, h.more fun _ _ => trivial, by rw [hw1]; exact (Below.refl _ _).alloc (Nat.le_refl _) _⟩
set_option maxRecDepth 100000 in
set_option maxHeartbeats 1600000 in
theorem c_pnames (x : List UInt8) (m : Int) (w : World) (hx : x.length ≤ 1000000) (hm : w.cell? ⟨5, 0, none⟩ = some (.int .i64 m)) :
    Calls Tryd.prog 29 #[.string (txt x)] w (TextsR w (pnamesB x)) := by
  have hz := txt_size x
  have HC := hide (c_right x w hx)
  have HM := hide hm
  have nil0 : ∀ (W : World), kStr.Row (fun _ => True) W none 0 0 ([].map txt) := fun W => .nil _ _ _ _ _ (Nat.zero_le _)
  have HN0 := hide nil0
  cases hr : rightB x with
  | false =>
    have HE : Hid (pnamesB x = []) := hide (by rw [pnamesB, if_neg (by rw [hr]; simp)])
    rw [hr] at HC
    clear hr hm nil0
    go_enter Tryd.func29, Tryd.ntmps29
    go_wp2_with fail
    refine HC.out.mono ?_
    rintro e w1 ⟨rfl, b1⟩
    have HB := hide b1
    clear b1
    go_wp2_with fail
    go_ret
    exact ⟨none, 0, 0, rfl, by rw [HE.out]; exact HN0.out _, HB.out⟩
  | true =>
    by_cases h47 : x = [47]
    · have HE : Hid (pnamesB x = []) := hide (by rw [pnamesB, if_neg (by simp [h47])])
      have h47' : (x == [47]) = true := by rw [h47]; rfl
      rw [hr] at HC
      clear hr hm nil0 h47
      go_enter Tryd.func29, Tryd.ntmps29
      go_wp2_with fail
      refine HC.out.mono ?_
      rintro e w1 ⟨rfl, b1⟩
      have HB := hide b1
      clear b1
      go_wp2_with fail
      go_ret
      exact ⟨none, 0, 0, rfl, by rw [HE.out]; exact HN0.out _, HB.out⟩
    · have h47' : (x == [47]) = false := beq_eq_false_iff_ne.2 h47
      have HE : Hid (pnamesB x = spl 47 x.tail) := hide (by rw [pnamesB, if_pos ⟨hr, h47⟩])
      obtain ⟨y, hy⟩ : ∃ y, x = 47 :: y := by
        obtain ⟨l, -, e, -⟩ := (right_iff x).1 hr
        exact ⟨_, e⟩
      rw [hr] at HC
      subst hy
      rw [List.length_cons] at hz hx
      obtain ⟨k, hk⟩ : ∃ k, y.length = k := ⟨_, rfl⟩
      rw [hk] at hz hx
      have HK := hide hk
      have HX : Hid ((txt (47 :: y)).extract 1 (k + 1) = txt y) := hide (by rw [ext_txt, ← hk]; simp)
      clear hr hm nil0 h47 hk
      go_enter Tryd.func29, Tryd.ntmps29
      go_wp2_with fail
      refine HC.out.mono ?_
      rintro e w1 ⟨rfl, b1⟩
      have HB := hide b1
      clear b1
      go_wp2_with fail
      rw [HX.out]
      refine (c_psplit y m _ (by rw [HK.out]; omega) ((HB.out.cell (p := ⟨5, 0, none⟩) (World.block_lt_of_cell? _ _ HM.out)).trans HM.out)).mono ?_
      rintro e w2 ⟨A, n, c, rfl, hR, b2⟩
      have HR := hide hR
      have HB2 := hide (HB.out.trans (b2.mono HB.out.size))
      clear hR b2
      go_wp2_with fail
      go_ret
      exact ⟨A, n, c, rfl, by rw [HE.out]; exact HR.out, HB2.out⟩
set_option maxRecDepth 100000 in
set_option maxHeartbeats 1600000 in
theorem c_prnames (x : List UInt8) (w : World) (hx : x.length ≤ 1000000) :
    Calls Tryd.prog 30 #[.string (txt x)] w (TextsR w (pnamesB x)) := by
  have hz := txt_size x
  have HC := hide (c_rright x w hx)
  have nil0 : ∀ (W : World) (H : Nat), H = W.heap.size → kStr.Row (fun _ => True) (W.alloc (.cells #[] 9)) (some ⟨H, 0, none⟩) 0 0 ([].map txt) := fun W H e => by
    subst e
    have h : kStr.Own (fun _ => True) W.heap.size (W.alloc (.cells #[] 9)) 9 (.slice (some ⟨W.heap.size, 0, none⟩) 0 0) [] := Kd.Own.lit (.nil _ _ _) #[] rfl 0 rfl (Nat.zero_le _) _ rfl (Nat.le_refl _)
    obtain ⟨A, c, e, h2⟩ := h.row
    obtain ⟨rfl, -, rfl⟩ := Value.slice.inj e
    exact h2.more fun _ _ => trivial
  have HN0 := hide nil0
  cases hr : rightB x with
  | false =>
    have HE : Hid (pnamesB x = []) := hide (by rw [pnamesB, if_neg (by rw [hr]; simp)])
    rw [hr] at HC
    clear hr nil0
    go_enter Tryd.func30, Tryd.ntmps30
    go_wp2_with fail
    refine HC.out.mono ?_
    rintro e w1 ⟨rfl, b1⟩
    have HB := hide b1
    clear b1
    go_wp2_with fail
    go_ret
    exact ⟨_, 0, 0, rfl, by rw [HE.out]; exact HN0.out _ _ rfl, HB.out.alloc HB.out.size _⟩
  | true =>
    by_cases h47 : x = [47]
    · have HE : Hid (pnamesB x = []) := hide (by rw [pnamesB, if_neg (by simp [h47])])
      have h47' : (x == [47]) = true := by rw [h47]; rfl
      rw [hr] at HC
      clear hr nil0 h47
      go_enter Tryd.func30, Tryd.ntmps30
      go_wp2_with fail
      refine HC.out.mono ?_
      rintro e w1 ⟨rfl, b1⟩
      have HB := hide b1
      clear b1
      go_wp2_with fail
      go_ret
      exact ⟨_, 0, 0, rfl, by rw [HE.out]; exact HN0.out _ _ rfl, HB.out.alloc HB.out.size _⟩
    · have h47' : (x == [47]) = false := beq_eq_false_iff_ne.2 h47
      have HE : Hid (pnamesB x = spl 47 x.tail) := hide (by rw [pnamesB, if_pos ⟨hr, h47⟩])
      obtain ⟨y, hy⟩ : ∃ y, x = 47 :: y := by
        obtain ⟨l, -, e, -⟩ := (right_iff x).1 hr
        exact ⟨_, e⟩
      rw [hr] at HC
      subst hy
      rw [List.length_cons] at hz hx
      obtain ⟨k, hk⟩ : ∃ k, y.length = k := ⟨_, rfl⟩
      rw [hk] at hz hx
      have HK := hide hk
      have HX : Hid ((txt (47 :: y)).extract 1 (k + 1) = txt y) := hide (by rw [ext_txt, ← hk]; simp)
      clear hr nil0 h47 hk
      go_enter Tryd.func30, Tryd.ntmps30
      go_wp2_with fail
      refine HC.out.mono ?_
      rintro e w1 ⟨rfl, b1⟩
      have HB := hide b1
      clear b1
      go_wp2_with fail
      rw [HX.out]
      refine (c_pieces y _ (by rw [HK.out]; omega)).mono ?_
      rintro e w2 ⟨A, n, c, rfl, hR, b2⟩
      have HR := hide hR
      have HB2 := hide (HB.out.trans (b2.mono HB.out.size))
      clear hR b2
      go_wp2_with fail
      go_ret
      exact ⟨A, n, c, rfl, by rw [HE.out]; exact HR.out, HB2.out⟩
end Go.Proofs.YtckcadhjpjjmjaaDoor
namespace Go.Proofs.YtckcadhjpjjmjaaDoor
open Go.RowKit
theorem map_txt_inj {a b : List (List UInt8)} : a.map txt = b.map txt ↔ a = b := by
  refine ⟨fun h => ?_, fun h => by rw [h]⟩
  have h2 := congrArg (List.map byt) h
  rw [List.map_map, List.map_map] at h2
  have e : (byt ∘ txt) = id := funext fun l => byt_txt l
  rwa [e, List.map_id, List.map_id] at h2
set_option maxRecDepth 100000 in
set_option maxHeartbeats 1600000 in
theorem c_same14 (A B : Option Addr) (n c m d : Nat) (xs ys : List ByteArray) (ok ok' : Nat → Prop) (w : World) (hR : kStr.Row ok w A n c xs) (hS : kStr.Row ok' w B m d ys) :
    Calls Tryd.prog 28 #[.slice A n c, .slice B m d] w fun e w' => e = .returned (.bool (decide (xs = ys))) ∧ Below w.heap.size w w' := by
  have hl := hR.1
  have hm := hS.1
  have hn63 : n ≤ 9223372036854775807 := Nat.le_trans hR.2.1 hR.2.2.1
  have hm63 : m ≤ 9223372036854775807 := Nat.le_trans hS.2.1 hS.2.2.1
  by_cases hnm : n = m
  · subst hnm
    have HL := hide hl
    have HM := hide hm
    have HR := hide hR
    have HS := hide hS
    clear hl hm hR hS
    go_enter Tryd.func28, Tryd.ntmps28
    go_wp2_with fail
    go_loopw [5, 13] (fun v iv wr => ∃ (V : Value) (k : Nat), V = v ∧ iv = .int .i64 (k : Int) ∧ k ≤ n ∧ Hid (xs.take k = ys.take k) ∧ Hid (Below w.heap.size w wr)) (fun _ iv _ => n - (intOf iv).toNat)
    case atStart => exact ⟨_, 0, rfl, rfl, Nat.zero_le _, hide rfl, hide (Below.refl _ _)⟩
    case round =>
      obtain ⟨V, k, rfl, rfl, hk, HT, HB⟩ := hrel
      by_cases hlt : k < n
      · obtain ⟨x, hx⟩ : ∃ x, xs[k]? = some x := ⟨_, List.getElem?_eq_getElem (by have := HL.out; omega)⟩
        obtain ⟨y, hy⟩ : ∃ y, ys[k]? = some y := ⟨_, List.getElem?_eq_getElem (by have := HM.out; omega)⟩
        obtain ⟨p, o, hix, hcx, -, -⟩ := row_str (h := HR.out.below HB.out) hx
        obtain ⟨p2, o2, hiy, hcy, -, -⟩ := row_str (h := HS.out.below HB.out) hy
        have HX := hide hx
        have HY := hide hy
        clear hx hy
        by_cases hxy : x = y
        · have hxy' : (!(x.toList == y.toList)) = false := by rw [hxy]; simp
          have HT2 : Hid (xs.take (k + 1) = ys.take (k + 1)) := hide (by rw [List.take_add_one, List.take_add_one, HX.out, HY.out, HT.out, hxy])
          clear hxy
          go_wp2_with fail
          go_quiet (fail)
          go_wp2_with fail
          refine ⟨⟨_, k + 1, rfl, by simp, by omega, HT2, hide (HB.out.trans ((below_drewN _ _).mono HB.out.size))⟩, ?_⟩
          simp only [intOf]
          omega
        · have HF : Hid (decide (xs = ys) = false) := hide (decide_eq_false fun e => hxy (by have h1 := HX.out; rw [e, HY.out] at h1; exact (Option.some.inj h1).symm))
          have hxy' : (!(x.toList == y.toList)) = true := by
            rw [ByteArray.toList_eq, ByteArray.toList_eq, beq_eq_false_iff_ne.2 fun e => hxy (ByteArray.ext (Array.toList_inj.1 e))]
            rfl
          clear hxy
          go_wp2_with fail
          go_quiet (fail)
          go_wp2_with fail
          go_ret
          exact ⟨by rw [HF.out]; rfl, HB.out.trans ((below_drewN _ _).mono HB.out.size)⟩
      · obtain rfl : k = n := by omega
        have HF : Hid (decide (xs = ys) = true) := hide (decide_eq_true (by have h := HT.out; rwa [List.take_of_length_le (by rw [HL.out]; exact Nat.le_refl _), List.take_of_length_le (by rw [HM.out]; exact Nat.le_refl _)] at h))
        go_wp2_with fail
        go_ret
        exact ⟨by rw [HF.out]; rfl, HB.out⟩
  · have HF : Hid (decide (xs = ys) = false) := hide (decide_eq_false fun e => hnm (by rw [← hl, ← hm, e]))
    have hnm' : ((n : Int) != (m : Int)) = true := bne_iff_ne.2 (by omega)
    clear hl hm hR hS
    go_enter Tryd.func28, Tryd.ntmps28
    go_wp2_with fail
    go_ret
    exact ⟨by rw [HF.out]; rfl, Below.refl _ _⟩
set_option maxRecDepth 100000 in
set_option maxHeartbeats 1600000 in
theorem c_punder (t p : List UInt8) (m : Int) (w : World) (ht : t.length ≤ 1000000) (hp : p.length ≤ 1000000) (hm : w.cell? ⟨5, 0, none⟩ = some (.int .i64 m)) :
    Calls Tryd.prog 31 #[.string (txt t), .string (txt p)] w fun e w' => e = .returned (.bool (underB t p)) ∧ Below w.heap.size w w' := by
  have HM := hide hm
  have HT := hide ht
  have HP := hide hp
  clear hm ht hp
  cases hrt : rightB t with
  | false =>
    have HF : Hid (underB t p = false) := hide (by rw [underB, hrt]; rfl)
    have HRT := hide hrt
    clear hrt
    go_enter Tryd.func31, Tryd.ntmps31
    go_wp2_with fail
    refine (c_right t _ HT.out).mono ?_
    rintro e w1 ⟨rfl, b1⟩
    have HB1 := hide b1
    clear b1
    rw [HRT.out]
    go_wp2_with fail
    go_ret
    exact ⟨by rw [HF.out]; rfl, HB1.out⟩
  | true =>
    cases hrp : rightB p with
    | false =>
      have HF : Hid (underB t p = false) := hide (by rw [underB, hrt, hrp]; rfl)
      have HRT := hide hrt
      have HRP := hide hrp
      clear hrt hrp
      go_enter Tryd.func31, Tryd.ntmps31
      go_wp2_with fail
      refine (c_right t _ HT.out).mono ?_
      rintro e w1 ⟨rfl, b1⟩
      have HB1 := hide b1
      clear b1
      rw [HRT.out]
      go_wp2_with fail
      refine (c_right p _ HP.out).mono ?_
      rintro e w2 ⟨rfl, b2⟩
      have HB2 := hide (HB1.out.trans (b2.mono HB1.out.size))
      clear b2
      rw [HRP.out]
      go_wp2_with fail
      go_ret
      exact ⟨by rw [HF.out]; rfl, HB2.out⟩
    | true =>
      obtain ⟨a, ha⟩ : ∃ a, pnamesB t = a := ⟨_, rfl⟩
      obtain ⟨b, hb⟩ : ∃ b, pnamesB p = b := ⟨_, rfl⟩
      have HU : Hid (underB t p = (decide (a.length ≤ b.length) && (a == b.take a.length))) := hide (by rw [underB, hrt, hrp, ha, hb]; rfl)
      have HRT := hide hrt
      have HRP := hide hrp
      have HA := hide ha
      have HB := hide hb
      clear hrt hrp ha hb
      go_enter Tryd.func31, Tryd.ntmps31
      go_wp2_with fail
      refine (c_right t _ HT.out).mono ?_
      rintro e w1 ⟨rfl, b1⟩
      have HB1 := hide b1
      clear b1
      rw [HRT.out]
      go_wp2_with fail
      refine (c_right p _ HP.out).mono ?_
      rintro e w2 ⟨rfl, b2⟩
      have HB2 := hide (HB1.out.trans (b2.mono HB1.out.size))
      clear b2
      rw [HRP.out]
      go_wp2_with fail
      refine (c_pnames t m _ HT.out ((HB2.out.cell (p := ⟨5, 0, none⟩) (World.block_lt_of_cell? _ _ HM.out)).trans HM.out)).mono ?_
      rintro e w3 ⟨A, n, c, rfl, hR3, b3⟩
      rw [HA.out] at hR3
      have HB3 := hide (HB2.out.trans (b3.mono HB2.out.size))
      have hn : a.length = n := by rw [← hR3.1, List.length_map]
      have HR3 := hide hR3
      clear b3 hR3
      go_wp2_with fail
      refine (c_pnames p m _ HP.out ((HB3.out.cell (p := ⟨5, 0, none⟩) (World.block_lt_of_cell? _ _ HM.out)).trans HM.out)).mono ?_
      rintro e w4 ⟨B, k, d, rfl, hR4, b4⟩
      rw [HB.out] at hR4
      have HR3' := hide (HR3.out.below b4)
      have HB4 := hide (HB3.out.trans (b4.mono HB3.out.size))
      have hk : b.length = k := by rw [← hR4.1, List.length_map]
      have HR4 := hide hR4
      have HN := hide hn
      have HK := hide hk
      have hk63 : k ≤ 9223372036854775807 := Nat.le_trans hR4.2.1 hR4.2.2.1
      clear b4 hR4 hn hk
      by_cases hle : n ≤ k
      · have hle' : (n : Int) ≤ (k : Int) := by omega
        obtain ⟨hsl, hrow⟩ := HR4.out.upto (P := Tryd.prog) Tryd.underlying22 str_info (k := n) hle .i64 (n : Int) rfl
        have HRW := hide hrow
        clear hrow
        go_wp2_with fail
        refine (c_equal A B n c n d (a.map txt) ((b.map txt).take n) _ _ _ HR3'.out HRW.out).mono ?_
        rintro e w5 ⟨rfl, b5⟩
        have HB5 := hide (HB4.out.trans (b5.mono HB4.out.size))
        clear b5
        go_wp2_with fail
        go_ret
        refine ⟨?_, HB5.out⟩
        rw [HU.out, HN.out, HK.out, decide_eq_true hle, Bool.true_and, ← List.map_take]
        show Ending.returned (Value.bool (decide (a.map txt = (b.take n).map txt))) = _
        rw [show (a == b.take n) = decide (a.map txt = (b.take n).map txt) from by rw [Bool.eq_iff_iff, beq_iff_eq, decide_eq_true_eq, map_txt_inj]]
      · have hle' : ¬ (n : Int) ≤ (k : Int) := by omega
        go_wp2_with fail
        go_ret
        exact ⟨by rw [HU.out, HN.out, HK.out, decide_eq_false hle]; rfl, HB4.out⟩
set_option maxRecDepth 100000 in
set_option maxHeartbeats 1600000 in
theorem c_prunder (t p : List UInt8) (w : World) (ht : t.length ≤ 1000000) (hp : p.length ≤ 1000000) :
    Calls Tryd.prog 32 #[.string (txt t), .string (txt p)] w fun e w' => e = .returned (.bool (underB t p)) ∧ Below w.heap.size w w' := by
  rw [under_eq]
  have HT := hide ht
  have HP := hide hp
  have hzt := txt_size t
  have hzp := txt_size p
  cases hrt : rightB t with
  | false =>
    have HF : Hid (runderB t p = false) := hide (by rw [runderB, hrt]; rfl)
    have HRT := hide hrt
    clear hrt ht hp
    go_enter Tryd.func32, Tryd.ntmps32
    go_wp2_with fail
    refine (c_rright t _ HT.out).mono ?_
    rintro e w1 ⟨rfl, b1⟩
    have HB1 := hide b1
    clear b1
    rw [HRT.out]
    go_wp2_with fail
    go_ret
    exact ⟨by rw [HF.out]; rfl, HB1.out⟩
  | true =>
    cases hrp : rightB p with
    | false =>
      have HF : Hid (runderB t p = false) := hide (by rw [runderB, hrt, hrp]; rfl)
      have HRT := hide hrt
      have HRP := hide hrp
      clear hrt hrp ht hp
      go_enter Tryd.func32, Tryd.ntmps32
      go_wp2_with fail
      refine (c_rright t _ HT.out).mono ?_
      rintro e w1 ⟨rfl, b1⟩
      have HB1 := hide b1
      clear b1
      rw [HRT.out]
      go_wp2_with fail
      refine (c_rright p _ HP.out).mono ?_
      rintro e w2 ⟨rfl, b2⟩
      have HB2 := hide (HB1.out.trans (b2.mono HB1.out.size))
      clear b2
      rw [HRP.out]
      go_wp2_with fail
      go_ret
      exact ⟨by rw [HF.out]; rfl, HB2.out⟩
    | true =>
      have hU : runderB t p = (t == [47] || (p == t) || (decide (t.length < p.length) && (p.take t.length == t) && (p[t.length]? == some 47))) := by rw [runderB, hrt, hrp]; rfl
      obtain ⟨n, hn⟩ : ∃ n, t.length = n := ⟨_, rfl⟩
      obtain ⟨k, hk⟩ : ∃ k, p.length = k := ⟨_, rfl⟩
      rw [hn, hk] at hU
      rw [hn] at hzt ht
      rw [hk] at hzp hp
      have HRT := hide hrt
      have HRP := hide hrp
      have HK := hide hk
      clear hrt hrp hn
      have hxx : ∀ z : List UInt8, ((txt p).toList == (txt z).toList) = (p == z) := fun z => beq_txt p z
      by_cases h1 : t = [47]
      · have HF : Hid (runderB t p = true) := hide (by rw [hU, h1]; rfl)
        have f1 : (t == [47]) = true := by rw [h1]; rfl
        clear hU hk h1 hxx
        go_enter Tryd.func32, Tryd.ntmps32
        go_wp2_with fail
        refine (c_rright t _ HT.out).mono ?_
        rintro e w1 ⟨rfl, b1⟩
        have HB1 := hide b1
        clear b1
        rw [HRT.out]
        go_wp2_with fail
        refine (c_rright p _ HP.out).mono ?_
        rintro e w2 ⟨rfl, b2⟩
        have HB2 := hide (HB1.out.trans (b2.mono HB1.out.size))
        clear b2
        rw [HRP.out]
        go_wp2_with fail
        go_ret
        exact ⟨by rw [HF.out]; rfl, HB2.out⟩
      · have f1 : (t == [47]) = false := beq_eq_false_iff_ne.2 h1
        rw [f1, Bool.false_or] at hU
        by_cases h2 : p = t
        · have HF : Hid (runderB t p = true) := hide (by rw [hU, h2]; simp)
          have f2 : (p == t) = true := by rw [h2]; simp
          clear hU hk h1 h2 hxx
          go_enter Tryd.func32, Tryd.ntmps32
          go_wp2_with fail
          refine (c_rright t _ HT.out).mono ?_
          rintro e w1 ⟨rfl, b1⟩
          have HB1 := hide b1
          clear b1
          rw [HRT.out]
          go_wp2_with fail
          refine (c_rright p _ HP.out).mono ?_
          rintro e w2 ⟨rfl, b2⟩
          have HB2 := hide (HB1.out.trans (b2.mono HB1.out.size))
          clear b2
          rw [HRP.out]
          go_wp2_with fail
          go_ret
          exact ⟨by rw [HF.out]; rfl, HB2.out⟩
        · have f2 : (p == t) = false := beq_eq_false_iff_ne.2 h2
          rw [f2, Bool.false_or] at hU
          by_cases h3 : n < k
          · have h3' : (n : Int) < (k : Int) := by omega
            have e3 : ((txt p).extract 0 n).toList = p.take n := by rw [ext_txt, ByteArray.toList_eq]; simp
            rw [decide_eq_true h3, Bool.true_and] at hU
            obtain ⟨y, hy⟩ : ∃ y, p[n]? = some y := ⟨_, List.getElem?_eq_getElem (by omega)⟩
            have hix := txt_byte (P := Tryd.prog) Tryd.underlying9 hy .i64
            rw [hy] at hU
            by_cases h4 : p.take n = t
            · have f4 : (((txt p).extract 0 n).toList == t) = true := by rw [e3, h4]; simp
              rw [h4] at hU
              by_cases h5 : y = 47
              · have HF : Hid (runderB t p = true) := hide (by rw [hU, h5]; simp)
                have f5 : ((y.toNat : Int) == 47) = true := by rw [h5]; rfl
                clear hU hk h1 h2 hxx e3 h4 hy
                go_enter Tryd.func32, Tryd.ntmps32
                go_wp2_with fail
                refine (c_rright t _ HT.out).mono ?_
                rintro e w1 ⟨rfl, b1⟩
                have HB1 := hide b1
                clear b1
                rw [HRT.out]
                go_wp2_with fail
                refine (c_rright p _ HP.out).mono ?_
                rintro e w2 ⟨rfl, b2⟩
                have HB2 := hide (HB1.out.trans (b2.mono HB1.out.size))
                clear b2
                rw [HRP.out]
                go_wp2_with fail
                go_ret
                exact ⟨by rw [HF.out]; rfl, HB2.out⟩
              · have HF : Hid (runderB t p = false) := hide (by rw [hU]; simp [h5])
                have f5 : ((y.toNat : Int) == 47) = false := beq_eq_false_iff_ne.2 (fun e => h5 (UInt8.toNat_inj.1 (show y.toNat = 47 by omega)))
                clear hU hk h1 h2 hxx e3 h4 hy
                go_enter Tryd.func32, Tryd.ntmps32
                go_wp2_with fail
                refine (c_rright t _ HT.out).mono ?_
                rintro e w1 ⟨rfl, b1⟩
                have HB1 := hide b1
                clear b1
                rw [HRT.out]
                go_wp2_with fail
                refine (c_rright p _ HP.out).mono ?_
                rintro e w2 ⟨rfl, b2⟩
                have HB2 := hide (HB1.out.trans (b2.mono HB1.out.size))
                clear b2
                rw [HRP.out]
                go_wp2_with fail
                go_ret
                exact ⟨by rw [HF.out]; rfl, HB2.out⟩
            · have f4 : (((txt p).extract 0 n).toList == t) = false := by rw [e3]; exact beq_eq_false_iff_ne.2 h4
              have HF : Hid (runderB t p = false) := hide (by rw [hU, beq_eq_false_iff_ne.2 h4]; rfl)
              clear hU hk h1 h2 hxx e3 h4 hy
              go_enter Tryd.func32, Tryd.ntmps32
              go_wp2_with fail
              refine (c_rright t _ HT.out).mono ?_
              rintro e w1 ⟨rfl, b1⟩
              have HB1 := hide b1
              clear b1
              rw [HRT.out]
              go_wp2_with fail
              refine (c_rright p _ HP.out).mono ?_
              rintro e w2 ⟨rfl, b2⟩
              have HB2 := hide (HB1.out.trans (b2.mono HB1.out.size))
              clear b2
              rw [HRP.out]
              go_wp2_with fail
              go_ret
              exact ⟨by rw [HF.out]; rfl, HB2.out⟩
          · have h3' : ¬ (n : Int) < (k : Int) := by omega
            have HF : Hid (runderB t p = false) := hide (by rw [hU, decide_eq_false h3]; rfl)
            clear hU hk h1 h2 hxx
            go_enter Tryd.func32, Tryd.ntmps32
            go_wp2_with fail
            refine (c_rright t _ HT.out).mono ?_
            rintro e w1 ⟨rfl, b1⟩
            have HB1 := hide b1
            clear b1
            rw [HRT.out]
            go_wp2_with fail
            refine (c_rright p _ HP.out).mono ?_
            rintro e w2 ⟨rfl, b2⟩
            have HB2 := hide (HB1.out.trans (b2.mono HB1.out.size))
            clear b2
            rw [HRP.out]
            go_wp2_with fail
            go_ret
            exact ⟨by rw [HF.out]; rfl, HB2.out⟩
set_option maxRecDepth 100000 in
set_option maxHeartbeats 1600000 in
theorem c_palive (m : Int) (w : World) (hm : w.cell? ⟨5, 0, none⟩ = some (.int .i64 m)) : Calls Tryd.prog 23 #[] w fun e w' => e = .returned (.bool true) ∧ Below w.heap.size w w' := by
  have HM := hide hm
  clear hm
  have N1 : Hid (normB [47, 47, 97, 47, 46, 47, 98, 47, 46, 46, 47, 99, 47] = ([47, 97, 47, 99], true)) := hide (by decide +kernel)
  have U1 : Hid (underB [47, 97] [47, 97, 47, 98] = true) := hide (by decide +kernel)
  have U2 : Hid (underB [47, 97] [47, 97, 98] = false) := hide (by decide +kernel)
  go_enter Tryd.func23, Tryd.ntmps23
  go_wp2_with fail
  refine (c_normal [47, 47, 97, 47, 46, 47, 98, 47, 46, 46, 47, 99, 47] _ (by decide)).mono ?_
  rintro e w1 ⟨rfl, b1⟩
  have HB1 := hide b1
  clear b1
  rw [N1.out]
  go_wp2_with fail
  refine (c_punder [47, 97] [47, 97, 47, 98] m _ (by decide) (by decide) ((HB1.out.cell (p := ⟨5, 0, none⟩) (World.block_lt_of_cell? _ _ HM.out)).trans HM.out)).mono ?_
  rintro e w2 ⟨rfl, b2⟩
  have HB2 := hide (HB1.out.trans (b2.mono HB1.out.size))
  clear b2
  rw [U1.out]
  go_wp2_with fail
  refine (c_punder [47, 97] [47, 97, 98] m _ (by decide) (by decide) ((HB2.out.cell (p := ⟨5, 0, none⟩) (World.block_lt_of_cell? _ _ HM.out)).trans HM.out)).mono ?_
  rintro e w3 ⟨rfl, b3⟩
  have HB3 := hide (HB2.out.trans (b3.mono HB2.out.size))
  clear b3
  rw [U2.out]
  go_wp2_with fail
  go_ret
  exact ⟨rfl, HB3.out⟩
end Go.Proofs.YtckcadhjpjjmjaaDoor
namespace Go.Proofs.YtckcadhjpjjmjaaDoor
open Go.RowKit
set_option maxRecDepth 100000 in
set_option maxHeartbeats 6400000 in
theorem c_pathorder (p q s : List UInt8) (m : Int) (w : World) (hp : p.length ≤ 1000000000000000) (hq : q.length ≤ 1000000000000000) (hs : s.length ≤ 1000000000000000) (hm : w.cell? ⟨5, 0, none⟩ = some (.int .i64 m)) :
    Calls Tryd.prog 6 #[.string (txt p), .string (txt q), .string (txt s)] w fun e w' => e = .returned (.bool true) ∧ Below w.heap.size w w' := by
  have HM := hide hm
  clear hm
  have hzp := txt_size p
  have hzq := txt_size q
  have hzs := txt_size s
  obtain ⟨a, ha⟩ : ∃ a, p.length = a := ⟨_, rfl⟩
  obtain ⟨b, hb⟩ : ∃ b, q.length = b := ⟨_, rfl⟩
  obtain ⟨c, hc⟩ : ∃ c, s.length = c := ⟨_, rfl⟩
  rw [ha] at hzp hp
  rw [hb] at hzq hq
  rw [hc] at hzs hs
  have HA := hide ha
  have HB := hide hb
  have HC := hide hc
  clear ha hb hc
  by_cases h1 : 500 < a
  · have h1' : (500 : Int) < (a : Int) := by omega
    go_enter Tryd.func6, Tryd.ntmps6
    go_wp2_with fail
    refine (c_palive m _ HM.out).mono ?_
    rintro e w1 ⟨rfl, b1⟩
    have HB1 := hide b1
    clear b1
    go_wp2_with fail
    go_ret
    exact ⟨rfl, HB1.out⟩
  have h1' : ¬ (500 : Int) < (a : Int) := by omega
  by_cases h2 : 500 < b
  · have h2' : (500 : Int) < (b : Int) := by omega
    go_enter Tryd.func6, Tryd.ntmps6
    go_wp2_with fail
    refine (c_palive m _ HM.out).mono ?_
    rintro e w1 ⟨rfl, b1⟩
    have HB1 := hide b1
    clear b1
    go_wp2_with fail
    go_ret
    exact ⟨rfl, HB1.out⟩
  have h2' : ¬ (500 : Int) < (b : Int) := by omega
  by_cases h3 : 500 < c
  · have h3' : (500 : Int) < (c : Int) := by omega
    go_enter Tryd.func6, Tryd.ntmps6
    go_wp2_with fail
    refine (c_palive m _ HM.out).mono ?_
    rintro e w1 ⟨rfl, b1⟩
    have HB1 := hide b1
    clear b1
    go_wp2_with fail
    go_ret
    exact ⟨rfl, HB1.out⟩
  have h3' : ¬ (500 : Int) < (c : Int) := by omega
  have HP : Hid (p.length ≤ 1000000) := hide (by rw [HA.out]; omega)
  have HQ : Hid (q.length ≤ 1000000) := hide (by rw [HB.out]; omega)
  have HS : Hid (s.length ≤ 1000000) := hide (by rw [HC.out]; omega)
  clear h1 h2 h3
  have hrt : Hid (([47] : List UInt8).length ≤ 1000000) := hide (by decide)
  obtain ⟨r, hr⟩ : ∃ r, rightB p = r := ⟨_, rfl⟩
  have HRB := hide hr
  have HUS : Hid (underB p p = r) := hide ((under_self p).trans hr)
  have HUR : Hid (underB [47] p = r) := hide ((under_root p).trans hr)
  obtain ⟨u, hu⟩ : ∃ u, underB p q = u := ⟨_, rfl⟩
  obtain ⟨v, hv⟩ : ∃ v, underB q p = v := ⟨_, rfl⟩
  obtain ⟨t, ht⟩ : ∃ t, underB q s = t := ⟨_, rfl⟩
  have HU := hide hu
  have HV := hide hv
  have HT := hide ht
  have HE : Hid (u = true → v = true → p = q) := hide (fun e f => under_anti (hu.trans e) (hv.trans f))
  have HW : Hid (u = true → t = true → underB p s = true) := hide (fun e f => under_trans (hu.trans e) (ht.trans f))
  clear hr hu hv ht
  obtain ⟨o, ho⟩ : ∃ o, normB p = o := ⟨_, rfl⟩
  obtain ⟨x, ok⟩ := o
  have HO := hide ho
  have hag := norm_again p
  rw [ho] at hag
  have HX : Hid (x.length ≤ 1000000) := hide (by
    cases ok with
    | false => rw [norm_no ho]; decide
    | true =>
      obtain ⟨l, -, rfl, h3⟩ := norm_some ho
      omega)
  obtain ⟨o2, ho2⟩ : ∃ o, normB x = o := ⟨_, rfl⟩
  obtain ⟨y, is⟩ := o2
  have HO2 := hide ho2
  have HF : Hid ((ok = false ∧ x = []) ∨ (ok = true ∧ x = y ∧ is = true ∧ rightB x = true)) := hide (by
    rcases hag with ⟨h1, h2⟩ | ⟨h1, h2, h3⟩
    · exact .inl ⟨h1, h2⟩
    · have h2' : normB x = (x, true) := h2
      have e := ho2.symm.trans h2'
      exact .inr ⟨h1, (congrArg Prod.fst e).symm, congrArg Prod.snd e, h3⟩)
  clear ho ho2 hag
  cases u with
  | false =>
    go_enter Tryd.func6, Tryd.ntmps6
    go_wp2_with fail
    refine (c_palive m _ HM.out).mono ?_
    rintro e w1 ⟨rfl, b1⟩
    have HB1 := hide b1
    clear b1
    go_wp2_with fail
    refine (c_punder p p m _ HP.out HP.out ((HB1.out.cell (p := ⟨5, 0, none⟩) (World.block_lt_of_cell? _ _ HM.out)).trans HM.out)).mono ?_
    rintro e w2 ⟨rfl, b2⟩
    have HB2 := hide (HB1.out.trans (b2.mono HB1.out.size))
    clear b2
    rw [HUS.out]
    go_wp2_with fail
    refine (c_right p _ HP.out).mono ?_
    rintro e w3 ⟨rfl, b3⟩
    have HB3 := hide (HB2.out.trans (b3.mono HB2.out.size))
    clear b3
    rw [HRB.out]
    go_wp2_with fail
    refine (c_punder [47] p m _ hrt.out HP.out ((HB3.out.cell (p := ⟨5, 0, none⟩) (World.block_lt_of_cell? _ _ HM.out)).trans HM.out)).mono ?_
    rintro e w4 ⟨rfl, b4⟩
    have HB4 := hide (HB3.out.trans (b4.mono HB3.out.size))
    clear b4
    rw [HUR.out]
    go_wp2_with fail
    refine (c_right p _ HP.out).mono ?_
    rintro e w5 ⟨rfl, b5⟩
    have HB5 := hide (HB4.out.trans (b5.mono HB4.out.size))
    clear b5
    rw [HRB.out]
    go_wp2_with fail
    refine (c_punder _ _ m _ HP.out HQ.out ((HB5.out.cell (p := ⟨5, 0, none⟩) (World.block_lt_of_cell? _ _ HM.out)).trans HM.out)).mono ?_
    rintro e w6 ⟨rfl, b6⟩
    have HB6 := hide (HB5.out.trans (b6.mono HB5.out.size))
    clear b6
    rw [HU.out]
    go_wp2_with fail
    refine (c_punder _ _ m _ HP.out HQ.out ((HB6.out.cell (p := ⟨5, 0, none⟩) (World.block_lt_of_cell? _ _ HM.out)).trans HM.out)).mono ?_
    rintro e w7 ⟨rfl, b7⟩
    have HB7 := hide (HB6.out.trans (b7.mono HB6.out.size))
    clear b7
    rw [HU.out]
    go_wp2_with fail
    refine (c_normal p _ HP.out).mono ?_
    rintro e w8 ⟨rfl, b8⟩
    have HB8 := hide (HB7.out.trans (b8.mono HB7.out.size))
    clear b8
    rw [HO.out]
    go_wp2_with fail
    rcases HF.out with ⟨hk, hx⟩ | ⟨hk, hy, hi, hrx⟩
    · subst hk
      subst hx
      refine (c_normal _ _ HX.out).mono ?_
      rintro e w9 ⟨rfl, b9⟩
      have HB9 := hide (HB8.out.trans (b9.mono HB8.out.size))
      clear b9
      rw [HO2.out]
      go_wp2_with fail
      go_ret
      exact ⟨rfl, HB9.out⟩
    · subst hk
      subst hy
      subst hi
      have HRX := hide hrx
      clear hrx
      refine (c_normal _ _ HX.out).mono ?_
      rintro e w9 ⟨rfl, b9⟩
      have HB9 := hide (HB8.out.trans (b9.mono HB8.out.size))
      clear b9
      rw [HO2.out]
      go_wp2_with fail
      refine (c_right _ _ HX.out).mono ?_
      rintro e w10 ⟨rfl, b10⟩
      have HB10 := hide (HB9.out.trans (b10.mono HB9.out.size))
      clear b10
      rw [HRX.out]
      go_wp2_with fail
      go_ret
      exact ⟨rfl, HB10.out⟩
  | true =>
    cases v with
    | false =>
      cases t with
      | false =>
        go_enter Tryd.func6, Tryd.ntmps6
        go_wp2_with fail
        refine (c_palive m _ HM.out).mono ?_
        rintro e w1 ⟨rfl, b1⟩
        have HB1 := hide b1
        clear b1
        go_wp2_with fail
        refine (c_punder p p m _ HP.out HP.out ((HB1.out.cell (p := ⟨5, 0, none⟩) (World.block_lt_of_cell? _ _ HM.out)).trans HM.out)).mono ?_
        rintro e w2 ⟨rfl, b2⟩
        have HB2 := hide (HB1.out.trans (b2.mono HB1.out.size))
        clear b2
        rw [HUS.out]
        go_wp2_with fail
        refine (c_right p _ HP.out).mono ?_
        rintro e w3 ⟨rfl, b3⟩
        have HB3 := hide (HB2.out.trans (b3.mono HB2.out.size))
        clear b3
        rw [HRB.out]
        go_wp2_with fail
        refine (c_punder [47] p m _ hrt.out HP.out ((HB3.out.cell (p := ⟨5, 0, none⟩) (World.block_lt_of_cell? _ _ HM.out)).trans HM.out)).mono ?_
        rintro e w4 ⟨rfl, b4⟩
        have HB4 := hide (HB3.out.trans (b4.mono HB3.out.size))
        clear b4
        rw [HUR.out]
        go_wp2_with fail
        refine (c_right p _ HP.out).mono ?_
        rintro e w5 ⟨rfl, b5⟩
        have HB5 := hide (HB4.out.trans (b5.mono HB4.out.size))
        clear b5
        rw [HRB.out]
        go_wp2_with fail
        refine (c_punder _ _ m _ HP.out HQ.out ((HB5.out.cell (p := ⟨5, 0, none⟩) (World.block_lt_of_cell? _ _ HM.out)).trans HM.out)).mono ?_
        rintro e w6 ⟨rfl, b6⟩
        have HB6 := hide (HB5.out.trans (b6.mono HB5.out.size))
        clear b6
        rw [HU.out]
        go_wp2_with fail
        refine (c_punder _ _ m _ HQ.out HP.out ((HB6.out.cell (p := ⟨5, 0, none⟩) (World.block_lt_of_cell? _ _ HM.out)).trans HM.out)).mono ?_
        rintro e w7 ⟨rfl, b7⟩
        have HB7 := hide (HB6.out.trans (b7.mono HB6.out.size))
        clear b7
        rw [HV.out]
        go_wp2_with fail
        refine (c_punder _ _ m _ HP.out HQ.out ((HB7.out.cell (p := ⟨5, 0, none⟩) (World.block_lt_of_cell? _ _ HM.out)).trans HM.out)).mono ?_
        rintro e w8 ⟨rfl, b8⟩
        have HB8 := hide (HB7.out.trans (b8.mono HB7.out.size))
        clear b8
        rw [HU.out]
        go_wp2_with fail
        refine (c_punder _ _ m _ HQ.out HS.out ((HB8.out.cell (p := ⟨5, 0, none⟩) (World.block_lt_of_cell? _ _ HM.out)).trans HM.out)).mono ?_
        rintro e w9 ⟨rfl, b9⟩
        have HB9 := hide (HB8.out.trans (b9.mono HB8.out.size))
        clear b9
        rw [HT.out]
        go_wp2_with fail
        refine (c_normal p _ HP.out).mono ?_
        rintro e w10 ⟨rfl, b10⟩
        have HB10 := hide (HB9.out.trans (b10.mono HB9.out.size))
        clear b10
        rw [HO.out]
        go_wp2_with fail
        rcases HF.out with ⟨hk, hx⟩ | ⟨hk, hy, hi, hrx⟩
        · subst hk
          subst hx
          refine (c_normal _ _ HX.out).mono ?_
          rintro e w11 ⟨rfl, b11⟩
          have HB11 := hide (HB10.out.trans (b11.mono HB10.out.size))
          clear b11
          rw [HO2.out]
          go_wp2_with fail
          go_ret
          exact ⟨rfl, HB11.out⟩
        · subst hk
          subst hy
          subst hi
          have HRX := hide hrx
          clear hrx
          refine (c_normal _ _ HX.out).mono ?_
          rintro e w11 ⟨rfl, b11⟩
          have HB11 := hide (HB10.out.trans (b11.mono HB10.out.size))
          clear b11
          rw [HO2.out]
          go_wp2_with fail
          refine (c_right _ _ HX.out).mono ?_
          rintro e w12 ⟨rfl, b12⟩
          have HB12 := hide (HB11.out.trans (b12.mono HB11.out.size))
          clear b12
          rw [HRX.out]
          go_wp2_with fail
          go_ret
          exact ⟨rfl, HB12.out⟩
      | true =>
        have HW2 := hide (HW.out rfl rfl)
        go_enter Tryd.func6, Tryd.ntmps6
        go_wp2_with fail
        refine (c_palive m _ HM.out).mono ?_
        rintro e w1 ⟨rfl, b1⟩
        have HB1 := hide b1
        clear b1
        go_wp2_with fail
        refine (c_punder p p m _ HP.out HP.out ((HB1.out.cell (p := ⟨5, 0, none⟩) (World.block_lt_of_cell? _ _ HM.out)).trans HM.out)).mono ?_
        rintro e w2 ⟨rfl, b2⟩
        have HB2 := hide (HB1.out.trans (b2.mono HB1.out.size))
        clear b2
        rw [HUS.out]
        go_wp2_with fail
        refine (c_right p _ HP.out).mono ?_
        rintro e w3 ⟨rfl, b3⟩
        have HB3 := hide (HB2.out.trans (b3.mono HB2.out.size))
        clear b3
        rw [HRB.out]
        go_wp2_with fail
        refine (c_punder [47] p m _ hrt.out HP.out ((HB3.out.cell (p := ⟨5, 0, none⟩) (World.block_lt_of_cell? _ _ HM.out)).trans HM.out)).mono ?_
        rintro e w4 ⟨rfl, b4⟩
        have HB4 := hide (HB3.out.trans (b4.mono HB3.out.size))
        clear b4
        rw [HUR.out]
        go_wp2_with fail
        refine (c_right p _ HP.out).mono ?_
        rintro e w5 ⟨rfl, b5⟩
        have HB5 := hide (HB4.out.trans (b5.mono HB4.out.size))
        clear b5
        rw [HRB.out]
        go_wp2_with fail
        refine (c_punder _ _ m _ HP.out HQ.out ((HB5.out.cell (p := ⟨5, 0, none⟩) (World.block_lt_of_cell? _ _ HM.out)).trans HM.out)).mono ?_
        rintro e w6 ⟨rfl, b6⟩
        have HB6 := hide (HB5.out.trans (b6.mono HB5.out.size))
        clear b6
        rw [HU.out]
        go_wp2_with fail
        refine (c_punder _ _ m _ HQ.out HP.out ((HB6.out.cell (p := ⟨5, 0, none⟩) (World.block_lt_of_cell? _ _ HM.out)).trans HM.out)).mono ?_
        rintro e w7 ⟨rfl, b7⟩
        have HB7 := hide (HB6.out.trans (b7.mono HB6.out.size))
        clear b7
        rw [HV.out]
        go_wp2_with fail
        refine (c_punder _ _ m _ HP.out HQ.out ((HB7.out.cell (p := ⟨5, 0, none⟩) (World.block_lt_of_cell? _ _ HM.out)).trans HM.out)).mono ?_
        rintro e w8 ⟨rfl, b8⟩
        have HB8 := hide (HB7.out.trans (b8.mono HB7.out.size))
        clear b8
        rw [HU.out]
        go_wp2_with fail
        refine (c_punder _ _ m _ HQ.out HS.out ((HB8.out.cell (p := ⟨5, 0, none⟩) (World.block_lt_of_cell? _ _ HM.out)).trans HM.out)).mono ?_
        rintro e w9 ⟨rfl, b9⟩
        have HB9 := hide (HB8.out.trans (b9.mono HB8.out.size))
        clear b9
        rw [HT.out]
        go_wp2_with fail
        refine (c_punder _ _ m _ HP.out HS.out ((HB9.out.cell (p := ⟨5, 0, none⟩) (World.block_lt_of_cell? _ _ HM.out)).trans HM.out)).mono ?_
        rintro e w10 ⟨rfl, b10⟩
        have HB10 := hide (HB9.out.trans (b10.mono HB9.out.size))
        clear b10
        rw [HW2.out]
        go_wp2_with fail
        refine (c_normal p _ HP.out).mono ?_
        rintro e w11 ⟨rfl, b11⟩
        have HB11 := hide (HB10.out.trans (b11.mono HB10.out.size))
        clear b11
        rw [HO.out]
        go_wp2_with fail
        rcases HF.out with ⟨hk, hx⟩ | ⟨hk, hy, hi, hrx⟩
        · subst hk
          subst hx
          refine (c_normal _ _ HX.out).mono ?_
          rintro e w12 ⟨rfl, b12⟩
          have HB12 := hide (HB11.out.trans (b12.mono HB11.out.size))
          clear b12
          rw [HO2.out]
          go_wp2_with fail
          go_ret
          exact ⟨rfl, HB12.out⟩
        · subst hk
          subst hy
          subst hi
          have HRX := hide hrx
          clear hrx
          refine (c_normal _ _ HX.out).mono ?_
          rintro e w12 ⟨rfl, b12⟩
          have HB12 := hide (HB11.out.trans (b12.mono HB11.out.size))
          clear b12
          rw [HO2.out]
          go_wp2_with fail
          refine (c_right _ _ HX.out).mono ?_
          rintro e w13 ⟨rfl, b13⟩
          have HB13 := hide (HB12.out.trans (b13.mono HB12.out.size))
          clear b13
          rw [HRX.out]
          go_wp2_with fail
          go_ret
          exact ⟨rfl, HB13.out⟩
    | true =>
      cases t with
      | false =>
        obtain rfl := HE.out rfl rfl
        clear HE
        go_enter Tryd.func6, Tryd.ntmps6
        go_wp2_with fail
        refine (c_palive m _ HM.out).mono ?_
        rintro e w1 ⟨rfl, b1⟩
        have HB1 := hide b1
        clear b1
        go_wp2_with fail
        refine (c_punder p p m _ HP.out HP.out ((HB1.out.cell (p := ⟨5, 0, none⟩) (World.block_lt_of_cell? _ _ HM.out)).trans HM.out)).mono ?_
        rintro e w2 ⟨rfl, b2⟩
        have HB2 := hide (HB1.out.trans (b2.mono HB1.out.size))
        clear b2
        rw [HUS.out]
        go_wp2_with fail
        refine (c_right p _ HP.out).mono ?_
        rintro e w3 ⟨rfl, b3⟩
        have HB3 := hide (HB2.out.trans (b3.mono HB2.out.size))
        clear b3
        rw [HRB.out]
        go_wp2_with fail
        refine (c_punder [47] p m _ hrt.out HP.out ((HB3.out.cell (p := ⟨5, 0, none⟩) (World.block_lt_of_cell? _ _ HM.out)).trans HM.out)).mono ?_
        rintro e w4 ⟨rfl, b4⟩
        have HB4 := hide (HB3.out.trans (b4.mono HB3.out.size))
        clear b4
        rw [HUR.out]
        go_wp2_with fail
        refine (c_right p _ HP.out).mono ?_
        rintro e w5 ⟨rfl, b5⟩
        have HB5 := hide (HB4.out.trans (b5.mono HB4.out.size))
        clear b5
        rw [HRB.out]
        go_wp2_with fail
        refine (c_punder _ _ m _ HP.out HQ.out ((HB5.out.cell (p := ⟨5, 0, none⟩) (World.block_lt_of_cell? _ _ HM.out)).trans HM.out)).mono ?_
        rintro e w6 ⟨rfl, b6⟩
        have HB6 := hide (HB5.out.trans (b6.mono HB5.out.size))
        clear b6
        rw [HU.out]
        go_wp2_with fail
        refine (c_punder _ _ m _ HQ.out HP.out ((HB6.out.cell (p := ⟨5, 0, none⟩) (World.block_lt_of_cell? _ _ HM.out)).trans HM.out)).mono ?_
        rintro e w7 ⟨rfl, b7⟩
        have HB7 := hide (HB6.out.trans (b7.mono HB6.out.size))
        clear b7
        rw [HV.out]
        go_wp2_with fail
        refine (c_punder _ _ m _ HP.out HQ.out ((HB7.out.cell (p := ⟨5, 0, none⟩) (World.block_lt_of_cell? _ _ HM.out)).trans HM.out)).mono ?_
        rintro e w8 ⟨rfl, b8⟩
        have HB8 := hide (HB7.out.trans (b8.mono HB7.out.size))
        clear b8
        rw [HU.out]
        go_wp2_with fail
        refine (c_punder _ _ m _ HQ.out HS.out ((HB8.out.cell (p := ⟨5, 0, none⟩) (World.block_lt_of_cell? _ _ HM.out)).trans HM.out)).mono ?_
        rintro e w9 ⟨rfl, b9⟩
        have HB9 := hide (HB8.out.trans (b9.mono HB8.out.size))
        clear b9
        rw [HT.out]
        go_wp2_with fail
        refine (c_normal p _ HP.out).mono ?_
        rintro e w10 ⟨rfl, b10⟩
        have HB10 := hide (HB9.out.trans (b10.mono HB9.out.size))
        clear b10
        rw [HO.out]
        go_wp2_with fail
        rcases HF.out with ⟨hk, hx⟩ | ⟨hk, hy, hi, hrx⟩
        · subst hk
          subst hx
          refine (c_normal _ _ HX.out).mono ?_
          rintro e w11 ⟨rfl, b11⟩
          have HB11 := hide (HB10.out.trans (b11.mono HB10.out.size))
          clear b11
          rw [HO2.out]
          go_wp2_with fail
          go_ret
          exact ⟨rfl, HB11.out⟩
        · subst hk
          subst hy
          subst hi
          have HRX := hide hrx
          clear hrx
          refine (c_normal _ _ HX.out).mono ?_
          rintro e w11 ⟨rfl, b11⟩
          have HB11 := hide (HB10.out.trans (b11.mono HB10.out.size))
          clear b11
          rw [HO2.out]
          go_wp2_with fail
          refine (c_right _ _ HX.out).mono ?_
          rintro e w12 ⟨rfl, b12⟩
          have HB12 := hide (HB11.out.trans (b12.mono HB11.out.size))
          clear b12
          rw [HRX.out]
          go_wp2_with fail
          go_ret
          exact ⟨rfl, HB12.out⟩
      | true =>
        have HW2 := hide (HW.out rfl rfl)
        obtain rfl := HE.out rfl rfl
        clear HE
        go_enter Tryd.func6, Tryd.ntmps6
        go_wp2_with fail
        refine (c_palive m _ HM.out).mono ?_
        rintro e w1 ⟨rfl, b1⟩
        have HB1 := hide b1
        clear b1
        go_wp2_with fail
        refine (c_punder p p m _ HP.out HP.out ((HB1.out.cell (p := ⟨5, 0, none⟩) (World.block_lt_of_cell? _ _ HM.out)).trans HM.out)).mono ?_
        rintro e w2 ⟨rfl, b2⟩
        have HB2 := hide (HB1.out.trans (b2.mono HB1.out.size))
        clear b2
        rw [HUS.out]
        go_wp2_with fail
        refine (c_right p _ HP.out).mono ?_
        rintro e w3 ⟨rfl, b3⟩
        have HB3 := hide (HB2.out.trans (b3.mono HB2.out.size))
        clear b3
        rw [HRB.out]
        go_wp2_with fail
        refine (c_punder [47] p m _ hrt.out HP.out ((HB3.out.cell (p := ⟨5, 0, none⟩) (World.block_lt_of_cell? _ _ HM.out)).trans HM.out)).mono ?_
        rintro e w4 ⟨rfl, b4⟩
        have HB4 := hide (HB3.out.trans (b4.mono HB3.out.size))
        clear b4
        rw [HUR.out]
        go_wp2_with fail
        refine (c_right p _ HP.out).mono ?_
        rintro e w5 ⟨rfl, b5⟩
        have HB5 := hide (HB4.out.trans (b5.mono HB4.out.size))
        clear b5
        rw [HRB.out]
        go_wp2_with fail
        refine (c_punder _ _ m _ HP.out HQ.out ((HB5.out.cell (p := ⟨5, 0, none⟩) (World.block_lt_of_cell? _ _ HM.out)).trans HM.out)).mono ?_
        rintro e w6 ⟨rfl, b6⟩
        have HB6 := hide (HB5.out.trans (b6.mono HB5.out.size))
        clear b6
        rw [HU.out]
        go_wp2_with fail
        refine (c_punder _ _ m _ HQ.out HP.out ((HB6.out.cell (p := ⟨5, 0, none⟩) (World.block_lt_of_cell? _ _ HM.out)).trans HM.out)).mono ?_
        rintro e w7 ⟨rfl, b7⟩
        have HB7 := hide (HB6.out.trans (b7.mono HB6.out.size))
        clear b7
        rw [HV.out]
        go_wp2_with fail
        refine (c_punder _ _ m _ HP.out HQ.out ((HB7.out.cell (p := ⟨5, 0, none⟩) (World.block_lt_of_cell? _ _ HM.out)).trans HM.out)).mono ?_
        rintro e w8 ⟨rfl, b8⟩
        have HB8 := hide (HB7.out.trans (b8.mono HB7.out.size))
        clear b8
        rw [HU.out]
        go_wp2_with fail
        refine (c_punder _ _ m _ HQ.out HS.out ((HB8.out.cell (p := ⟨5, 0, none⟩) (World.block_lt_of_cell? _ _ HM.out)).trans HM.out)).mono ?_
        rintro e w9 ⟨rfl, b9⟩
        have HB9 := hide (HB8.out.trans (b9.mono HB8.out.size))
        clear b9
        rw [HT.out]
        go_wp2_with fail
        refine (c_punder _ _ m _ HP.out HS.out ((HB9.out.cell (p := ⟨5, 0, none⟩) (World.block_lt_of_cell? _ _ HM.out)).trans HM.out)).mono ?_
        rintro e w10 ⟨rfl, b10⟩
        have HB10 := hide (HB9.out.trans (b10.mono HB9.out.size))
        clear b10
        rw [HW2.out]
        go_wp2_with fail
        refine (c_normal p _ HP.out).mono ?_
        rintro e w11 ⟨rfl, b11⟩
        have HB11 := hide (HB10.out.trans (b11.mono HB10.out.size))
        clear b11
        rw [HO.out]
        go_wp2_with fail
        rcases HF.out with ⟨hk, hx⟩ | ⟨hk, hy, hi, hrx⟩
        · subst hk
          subst hx
          refine (c_normal _ _ HX.out).mono ?_
          rintro e w12 ⟨rfl, b12⟩
          have HB12 := hide (HB11.out.trans (b12.mono HB11.out.size))
          clear b12
          rw [HO2.out]
          go_wp2_with fail
          go_ret
          exact ⟨rfl, HB12.out⟩
        · subst hk
          subst hy
          subst hi
          have HRX := hide hrx
          clear hrx
          refine (c_normal _ _ HX.out).mono ?_
          rintro e w12 ⟨rfl, b12⟩
          have HB12 := hide (HB11.out.trans (b12.mono HB11.out.size))
          clear b12
          rw [HO2.out]
          go_wp2_with fail
          refine (c_right _ _ HX.out).mono ?_
          rintro e w13 ⟨rfl, b13⟩
          have HB13 := hide (HB12.out.trans (b13.mono HB12.out.size))
          clear b13
          rw [HRX.out]
          go_wp2_with fail
          go_ret
          exact ⟨rfl, HB13.out⟩
end Go.Proofs.YtckcadhjpjjmjaaDoor
namespace Go.Proofs.YtckcadhjpjjmjaaDoor
open Go.ChangeShapes Go.WideShapes Go.ChangeAt Go.RowKit

def inReach {H : Type} (d : DataW H) (t : TypeId) : Prop := (d.weights Tryd.prog t).all (· ≤ reachBytes) = true
theorem each_part {H : Type} : ∀ {ts : List TypeId} {ds : List (DataW H)} {j : Nat} {t : TypeId} {d : DataW H}, (DataW.weightsEach Tryd.prog ts ds).all (· ≤ reachBytes) = true → ts[j]? = some t → ds[j]? = some d → inReach d t := by
  intro ts ds j t d h ht hd
  unfold inReach
  rw [List.all_eq_true] at h ⊢
  intro n hn
  exact h n (DataW.weights_mem_each ht hd n hn)
theorem all_mem {H : Type} : ∀ {e : TypeId} {ds : List (DataW H)} {d : DataW H}, (DataW.weightsAll Tryd.prog e ds).all (· ≤ reachBytes) = true → d ∈ ds → inReach d e
  | e, [], d, _, hd => by simp at hd
  | e, x :: r, d, h, hd => by
    simp only [DataW.weightsAll, List.all_append, Bool.and_eq_true] at h
    simp only [List.mem_cons] at hd
    rcases hd with rfl | hd
    · exact h.1
    · exact all_mem h.2 hd
theorem reach_str {H : Type} {s : ByteArray} {t : TypeId} (h : inReach (H := H) (.lit (.string s.data.toList)) t) : s.size ≤ 140737488355328 := by
  unfold inReach at h
  simp only [DataW.weights, List.all_cons, List.all_nil, Bool.and_true, decide_eq_true_eq] at h
  have e : s.data.toList.length = s.size := by rw [Array.length_toList]; rfl
  have := reachBytes_lt
  omega
theorem reach_struct {H : Type} {t : TypeId} {fs : Array Field} {parts : List (DataW H)} (hu : Tryd.prog.underlying t = some (.struct fs)) (h : inReach (.agg parts) t) : (DataW.weightsEach Tryd.prog (fs.toList.map (·.type)) parts).all (· ≤ reachBytes) = true := by
  unfold inReach at h
  simpa [DataW.weights, hu] using h
theorem reach_slice {H : Type} {t e : TypeId} {el sp : List (DataW H)} (hu : Tryd.prog.underlying t = some (.slice e)) (h : inReach (.slice el sp) t) : (DataW.weightsAll Tryd.prog e el).all (· ≤ reachBytes) = true := by
  unfold inReach at h
  simp only [DataW.weights, hu, List.all_cons, List.all_append, Bool.and_eq_true] at h
  exact h.2.1
variable {H : Type} {enc : TypeId × Value → H} {w : World} {spare : Nat → Bool} {held : Bool}
/-- As 'trod_row', of elements of which more is known. -/
theorem trod_row_s {α : Type} {d : Kd α} {Q : α → Prop} {t e : TypeId} {fuel : Nat} {cs : List Value} {x : DataW H × List MemPlace} (hT : Tryd.prog.underlying t = some (.slice e)) (hsz : Tryd.prog.cellsOf e = d.sz) (h0 : 0 < d.sz)
    (hel : ∀ n cs x, DataW.trod enc Tryd.prog w 0 spare held n e cs = some x → inReach x.1 e → ∃ y, d.K (· < w.heap.size) w y cs ∧ Q y) (h : DataW.trod enc Tryd.prog w 0 spare held fuel t cs = some x) (hw : inReach x.1 t) :
    ∃ A n c xs, cs = [.slice A n c] ∧ d.Row (· < w.heap.size) w A n c xs ∧ ∀ y ∈ xs, Q y := by
  rcases Go.Deep.open_slice hT h with ⟨rfl, _⟩ | ⟨a, len, cap, m, n, D, Pl, rfl, _, hl, hm, hmm, rfl, hi⟩
  · exact ⟨_, _, _, [], rfl, .nil _ _ _ _ _ (Nat.zero_le _), by simp⟩
  · have hlm : len ≤ m := by rw [hmm]; split <;> omega
    have hE := reach_slice hT hw
    rcases Nat.eq_zero_or_pos len with hz | hpos
    · subst hz
      exact ⟨_, _, _, [], rfl, .nil _ _ _ _ _ hm, by simp⟩
    have hc0 : ∀ i, i < len → ∃ y, ∃ cs', Tryd.prog.cellsOf e = cs'.length ∧ w.cells? 0 (a.add (i * Tryd.prog.cellsOf e)) (Tryd.prog.cellsOf e) = some cs' ∧ d.K (· < w.heap.size) w y cs' ∧ Q y := fun i hil => by
      obtain ⟨cs', hcs, htr⟩ := hi i (by omega)
      obtain ⟨y, hy, hq⟩ := hel _ _ _ htr (all_mem hE (List.mem_map.2 ⟨i, by simpa using hil, rfl⟩))
      obtain ⟨_, hcl, _⟩ := World.cells?_some hcs
      exact ⟨y, cs', hcl.symm, hcs, hy, hq⟩
    have hsp : a.spot = none ∧ a.block < w.heap.size := by
      obtain ⟨y, cs', hcl0, hcs, hy, _⟩ := hc0 0 hpos
      obtain ⟨_, hcl, hat⟩ := World.cells?_some hcs
      have hp : 0 < cs'.length := by rw [hcl, hsz]; exact h0
      have hg : w.cell? a = some (cs'[0]'(by omega)) := by
        have := (hat 0 (by omega)).trans (List.getElem?_eq_getElem (by omega))
        simpa [Addr.add] using this
      exact ⟨World.cell?_spot hg, World.block_lt_of_cell? w _ hg⟩
    obtain ⟨b, o, sp⟩ := a
    obtain ⟨rfl, hlt⟩ := hsp
    have hc : ∀ i, i < len → ∃ y, ∃ cs, (d.K (· < w.heap.size) w y cs ∧ w.rangeAt b (o + i * d.sz) cs) ∧ Q y := fun i hil => by
      obtain ⟨y, cs', _, hcs, hy, hq⟩ := hc0 i hil
      obtain ⟨_, hcl, hat⟩ := World.cells?_some hcs
      rw [hsz] at hcl hat
      refine ⟨y, cs', ⟨hy, fun j v hv => ?_⟩, hq⟩
      have := hat j (by rw [← hcl]; exact (List.getElem?_eq_some_iff.1 hv).1)
      rw [hv, Addr.add_none, Addr.add_none] at this
      exact this
    obtain ⟨xs, hxl, hx⟩ := list_of len hc
    exact ⟨_, _, _, xs, rfl, ⟨hxl, hl, hm, fun hn => ⟨b, o, rfl, hlt, hlt, fun i x hix => let ⟨cs, hq, _⟩ := hx i x hix; ⟨cs, hq⟩⟩⟩, fun y hy => by
      obtain ⟨i, hi', rfl⟩ := List.mem_iff_getElem.1 hy
      obtain ⟨cs, _, hq⟩ := hx i _ (List.getElem?_eq_getElem hi')
      exact hq⟩
theorem str_open_s (n : Nat) (cs : List Value) (x : DataW H × List MemPlace) (h : DataW.trod enc Tryd.prog w 0 spare held n 9 cs = some x) (hw : inReach x.1 9) :
    ∃ y : ByteArray, kStr.K (· < w.heap.size) w y cs ∧ y.size ≤ 140737488355328 := by
  obtain ⟨s, rfl, e, hm⟩ := DataW.trod_string Tryd.underlying9 h
  rw [e] at hw
  exact ⟨s, ⟨rfl, hm⟩, reach_str hw⟩
end Go.Proofs.YtckcadhjpjjmjaaDoor
