/- The row's step: arguments opened to lists, a law that answers true and turns nothing old closed. No condition. -/
import Derived.Test.YtckcadhjpjjmjaaDoorRep
import Derived.WalkKit
import Derived.ProofKit
import Derived.OpenShut
import Derived.JoinedCond
import Derived.Deep.Slices
import Derived.Deep.Fields
import Derived.ChangeSame
import Derived.Carry
namespace Go.Proofs.YtckcadhjpjjmjaaDoor
open Go.ChangeShapes Go.WideShapes Go.ChangeAt Go.RowKit

section
variable {H : Type} {enc : TypeId × Value → H} {P : Program}
theorem stays_all {W W' : World} {sp : Nat → Bool} (hl : laidOutB P = true) (hb : Below W.heap.size W W') : ∀ {ts : List TypeId} {vs : List Value} {ds : List (DataW H)} {p : List MemPlace}, ts.all (fun t => P.readableRec t && decide (t < P.types.size)) = true →
    DataW.TrodAll enc P W 0 (fun _ => true) true ts vs ds p → (∀ x ∈ p, x.block < W.heap.size) → (∀ x ∈ p, sp x.block = true) → DataW.TrodAll enc P W' 0 sp true ts vs ds p
  | [], _, _, _, _, h, _, _ => by
    obtain ⟨rfl, rfl, rfl⟩ := trodAll_nil h
    exact trodAll_mk0
  | t :: ts, _, _, _, ht, h, hlt, hs => by
    obtain ⟨v, vs1, d, ds1, a, b, rfl, rfl, rfl, h1, h2⟩ := trodAll_cons h
    simp only [List.all_cons, Bool.and_eq_true, decide_eq_true_eq] at ht
    exact ⟨a, b, Go.WideElems.Trod_stays hl ht.1.1 ht.1.2 h1 (fun x hx => hb.same (hlt x (by simp [hx]))) (fun x hx => hs x (by simp [hx])),
      stays_all hl hb (by simpa using ht.2) h2 (fun x hx => hlt x (by simp [hx])) (fun x hx => hs x (by simp [hx])), rfl⟩

theorem post_true {f : Func} {s : ChangeSpec} {apart fresh handsOn again : Bool} {W W' : World} {args : Array Value} {ds gs : List (DataW H)} {before : List MemPlace} {tb : TypeId} (hl : laidOutB P = true)
    (hp : f.params.toList.all (fun t => P.readableRec t && decide (t < P.types.size)) = true) (hr : f.resultTypes = #[tb]) (hbt : P.underlying tb = some .bool) (hsv : s.vars = [])
    (hW : DataW.Whole enc P f.params.toList s.vars apart W args.toList ds gs before) (hfn : s.fn H (ds ++ gs) = { results := [.lit (.bool true)], args := ds }) (hb : Below W.heap.size W W') :
    s.post enc P f apart fresh handsOn again W args (.bool true) W' := by
  have hlt : ∀ p ∈ before, p.block < W.heap.size := fun p hp => hW.lt p hp
  have hold : ∀ p ∈ before, (fun b => decide (b < W.heap.size)) p.block = true := fun p hp => by simpa using hlt p hp
  have hW' := hW
  obtain ⟨p, q, hA, hV, rfl, hz, hn⟩ := hW
  rw [hsv] at hV
  obtain ⟨rfl, rfl⟩ := trodVars_none hV
  have hargs : ∀ sp : Nat → Bool, (∀ x ∈ p, sp x.block = true) → DataW.TrodAll enc P W' 0 sp true f.params.toList args.toList (s.fn H (ds ++ [])).args p := fun sp hs => by
    rw [hfn]
    exact stays_all hl hb hp hA (fun x hx => hlt x (by simp [hx])) hs
  have hres : ∀ (b : Nat) (sp : Nat → Bool) (hd : Bool), DataW.TrodAll enc P W' b sp hd f.resultTypes.toList ((Value.bool true).resultList f.resultTypes.size) (s.fn H (ds ++ [])).results [] := fun b sp hd => by
    rw [hfn, hr]
    exact trodAll_mk1 (shut_bool hbt _)
  have hvars : ∀ sp : Nat → Bool, DataW.TrodVars enc P W' sp s.vars (s.fn H (ds ++ [])).vars [] := fun sp => by
    rw [hfn, hsv]
    simp [DataW.TrodVars]
  refine ⟨ds, [], p ++ [], [], p, [], hW', hres _ _ _, hargs _ (fun x hx => hold x (by simp [hx])), hvars _, World.keptBut_mono (fun x hx => ⟨hx, ?_⟩) (hb.frame (· ∈ p ++ [])), fun _ => ?_⟩
  · exact Or.inr (by simpa using hx)
  · refine ⟨ok_one hr rfl (okWide_bool_mk hbt _), _, _, ([] ++ p) ++ [], ⟨[] ++ p, [], trodAll_append (hargs _ (fun _ _ => rfl)) (hres _ _ _), hvars _, rfl, ?_, ?_⟩, ?_⟩
    · intro b off hp'
      have hin : MemPlace.cell b off ∈ p ++ [] := by simpa using hp'
      rw [hb.frozen (hlt _ hin)]
      exact hz b off hin
    · intro ha
      have := hn ha
      simpa using this
    · intro x hx _
      simpa using hx

theorem Addr.add_none (b o k : Nat) : (⟨b, o, none⟩ : Addr).add k = ⟨b, o + k, none⟩ := by
  unfold Addr.add
  split <;> simp_all
theorem list_of {α : Type} {Q : Nat → α → Prop} : ∀ n, (∀ i, i < n → ∃ y, Q i y) → ∃ xs : List α, xs.length = n ∧ ∀ i y, xs[i]? = some y → Q i y
  | 0, _ => ⟨[], rfl, fun i y h => by simp at h⟩
  | n + 1, h => by
    obtain ⟨xs, hl, hx⟩ := list_of n (fun i hi => h i (by omega))
    obtain ⟨y, hy⟩ := h n (by omega)
    refine ⟨xs ++ [y], by simp [hl], fun i z hz => ?_⟩
    rcases Nat.lt_or_ge i xs.length with h' | h'
    · rw [List.getElem?_append_left h'] at hz; exact hx i z hz
    · rw [List.getElem?_append_right h'] at hz
      have : i = n := by
        have := (List.getElem?_eq_some_iff.1 hz).1
        simp at this
        omega
      subst this
      rw [hl, Nat.sub_self] at hz
      obtain rfl : y = z := by simpa using hz
      exact hy

variable {w : World} {spare : Nat → Bool} {held : Bool}
theorem trod_row {α : Type} {d : Kd α} {t e : TypeId} {fuel : Nat} {cs : List Value} {x : DataW H × List MemPlace} (hT : P.underlying t = some (.slice e)) (hsz : P.cellsOf e = d.sz) (h0 : 0 < d.sz)
    (hel : ∀ n cs x, DataW.trod enc P w 0 spare held n e cs = some x → ∃ y, d.K (· < w.heap.size) w y cs) (h : DataW.trod enc P w 0 spare held fuel t cs = some x) :
    ∃ A n c xs, cs = [.slice A n c] ∧ d.Row (· < w.heap.size) w A n c xs := by
  rcases Go.Deep.open_slice hT h with ⟨rfl, _⟩ | ⟨a, len, cap, m, n, D, Pl, rfl, _, hl, hm, hmm, _, hi⟩
  · exact ⟨_, _, _, [], rfl, .nil _ _ _ _ _ (Nat.zero_le _)⟩
  · have hlm : len ≤ m := by rw [hmm]; split <;> omega
    rcases Nat.eq_zero_or_pos len with hz | hpos
    · subst hz
      exact ⟨_, _, _, [], rfl, .nil _ _ _ _ _ hm⟩
    have hsp : a.spot = none ∧ a.block < w.heap.size := by
      obtain ⟨cs', hcs, htr⟩ := hi 0 (by omega)
      obtain ⟨_, hcl, hat⟩ := World.cells?_some hcs
      have hg : w.cell? a = some (cs'[0]'(by omega)) := by
        have := (hat 0 (by omega)).trans (List.getElem?_eq_getElem (by omega))
        simpa [Addr.add] using this
      exact ⟨World.cell?_spot hg, World.block_lt_of_cell? w _ hg⟩
    obtain ⟨b, o, sp⟩ := a
    obtain ⟨rfl, hlt⟩ := hsp
    have hc : ∀ i, i < len → ∃ y, ∃ cs, d.K (· < w.heap.size) w y cs ∧ w.rangeAt b (o + i * d.sz) cs := fun i hil => by
      obtain ⟨cs', hcs, htr⟩ := hi i (by omega)
      obtain ⟨y, hy⟩ := hel _ _ _ htr
      obtain ⟨_, hcl, hat⟩ := World.cells?_some hcs
      rw [hsz] at hcl hat
      refine ⟨y, cs', hy, fun j v hv => ?_⟩
      have := hat j (by rw [← hcl]; exact (List.getElem?_eq_some_iff.1 hv).1)
      rw [hv, Addr.add_none, Addr.add_none] at this
      exact this
    obtain ⟨xs, hxl, hx⟩ := list_of len hc
    exact ⟨_, _, _, xs, rfl, hxl, hl, hm, fun hn => ⟨b, o, rfl, hlt, hlt, fun i x hix => hx i x hix⟩⟩
end
end Go.Proofs.YtckcadhjpjjmjaaDoor
