/- Arguments opened with the form's own reach (texts of up to 2^47 bytes). No condition. -/
import Derived.Test.YtckcadhjpjjmjaaDoorRow
import Derived.Test.YtckcadhjpjjmjaaDoorChecked
import Derived.SizedLaws
namespace Go.Proofs.YtckcadhjpjjmjaaDoor
open Go.ChangeShapes Go.WideShapes Go.ChangeAt Go.RowKit

def inReach {H : Type} (d : DataW H) (t : TypeId) : Prop := (d.weights Tryd.prog t).all (· ≤ reachBytes) = true
theorem each_part {H : Type} : ∀ {ts : List TypeId} {ds : List (DataW H)} {j : Nat} {t : TypeId} {d : DataW H}, (DataW.weightsEach Tryd.prog ts ds).all (· ≤ reachBytes) = true → ts[j]? = some t → ds[j]? = some d → inReach d t := by
  intro ts ds j t d h ht hd
  unfold inReach
  rw [List.all_eq_true] at h ⊢
  intro n hn
  exact h n (DataW.weights_mem_each ht hd n hn)
theorem all_mem {H : Type} : ∀ {e : TypeId} {ds : List (DataW H)} {d : DataW H}, (DataW.weightsAll Tryd.prog e ds).all (· ≤ reachBytes) = true → d ∈ ds → inReach d e
  | e, [], d, _, hd => by simp at hd
  | e, x :: r, d, h, hd => by
    simp only [DataW.weightsAll, List.all_append, Bool.and_eq_true] at h
    simp only [List.mem_cons] at hd
    rcases hd with rfl | hd
    · exact h.1
    · exact all_mem h.2 hd
theorem reach_str {H : Type} {s : ByteArray} {t : TypeId} (h : inReach (H := H) (.lit (.string s.data.toList)) t) : s.size ≤ 140737488355328 := by
  unfold inReach at h
  simp only [DataW.weights, List.all_cons, List.all_nil, Bool.and_true, decide_eq_true_eq] at h
  have e : s.data.toList.length = s.size := by rw [Array.length_toList]; rfl
  have := reachBytes_lt
  omega
theorem reach_struct {H : Type} {t : TypeId} {fs : Array Field} {parts : List (DataW H)} (hu : Tryd.prog.underlying t = some (.struct fs)) (h : inReach (.agg parts) t) : (DataW.weightsEach Tryd.prog (fs.toList.map (·.type)) parts).all (· ≤ reachBytes) = true := by
  unfold inReach at h
  simpa [DataW.weights, hu] using h
theorem reach_slice {H : Type} {t e : TypeId} {el sp : List (DataW H)} (hu : Tryd.prog.underlying t = some (.slice e)) (h : inReach (.slice el sp) t) : (DataW.weightsAll Tryd.prog e el).all (· ≤ reachBytes) = true := by
  unfold inReach at h
  simp only [DataW.weights, hu, List.all_cons, List.all_append, Bool.and_eq_true] at h
  exact h.2.1
variable {H : Type} {enc : TypeId × Value → H} {w : World} {spare : Nat → Bool} {held : Bool}
/-- As 'trod_row', of elements of which more is known. -/
theorem trod_row_s {α : Type} {d : Kd α} {Q : α → Prop} {t e : TypeId} {fuel : Nat} {cs : List Value} {x : DataW H × List MemPlace} (hT : Tryd.prog.underlying t = some (.slice e)) (hsz : Tryd.prog.cellsOf e = d.sz) (h0 : 0 < d.sz)
    (hel : ∀ n cs x, DataW.trod enc Tryd.prog w 0 spare held n e cs = some x → inReach x.1 e → ∃ y, d.K (· < w.heap.size) w y cs ∧ Q y) (h : DataW.trod enc Tryd.prog w 0 spare held fuel t cs = some x) (hw : inReach x.1 t) :
    ∃ A n c xs, cs = [.slice A n c] ∧ d.Row (· < w.heap.size) w A n c xs ∧ ∀ y ∈ xs, Q y := by
  rcases Go.Deep.open_slice hT h with ⟨rfl, _⟩ | ⟨a, len, cap, m, n, D, Pl, rfl, _, hl, hm, hmm, rfl, hi⟩
  · exact ⟨_, _, _, [], rfl, .nil _ _ _ _ _ (Nat.zero_le _), by simp⟩
  · have hlm : len ≤ m := by rw [hmm]; split <;> omega
    have hE := reach_slice hT hw
    rcases Nat.eq_zero_or_pos len with hz | hpos
    · subst hz
      exact ⟨_, _, _, [], rfl, .nil _ _ _ _ _ hm, by simp⟩
    have hc0 : ∀ i, i < len → ∃ y, ∃ cs', Tryd.prog.cellsOf e = cs'.length ∧ w.cells? 0 (a.add (i * Tryd.prog.cellsOf e)) (Tryd.prog.cellsOf e) = some cs' ∧ d.K (· < w.heap.size) w y cs' ∧ Q y := fun i hil => by
      obtain ⟨cs', hcs, htr⟩ := hi i (by omega)
      obtain ⟨y, hy, hq⟩ := hel _ _ _ htr (all_mem hE (List.mem_map.2 ⟨i, by simpa using hil, rfl⟩))
      obtain ⟨_, hcl, _⟩ := World.cells?_some hcs
      exact ⟨y, cs', hcl.symm, hcs, hy, hq⟩
    have hsp : a.spot = none ∧ a.block < w.heap.size := by
      obtain ⟨y, cs', hcl0, hcs, hy, _⟩ := hc0 0 hpos
      obtain ⟨_, hcl, hat⟩ := World.cells?_some hcs
      have hp : 0 < cs'.length := by rw [hcl, hsz]; exact h0
      have hg : w.cell? a = some (cs'[0]'(by omega)) := by
        have := (hat 0 (by omega)).trans (List.getElem?_eq_getElem (by omega))
        simpa [Addr.add] using this
      exact ⟨World.cell?_spot hg, World.block_lt_of_cell? w _ hg⟩
    obtain ⟨b, o, sp⟩ := a
    obtain ⟨rfl, hlt⟩ := hsp
    have hc : ∀ i, i < len → ∃ y, ∃ cs, (d.K (· < w.heap.size) w y cs ∧ w.rangeAt b (o + i * d.sz) cs) ∧ Q y := fun i hil => by
      obtain ⟨y, cs', _, hcs, hy, hq⟩ := hc0 i hil
      obtain ⟨_, hcl, hat⟩ := World.cells?_some hcs
      rw [hsz] at hcl hat
      refine ⟨y, cs', ⟨hy, fun j v hv => ?_⟩, hq⟩
      have := hat j (by rw [← hcl]; exact (List.getElem?_eq_some_iff.1 hv).1)
      rw [hv, Addr.add_none, Addr.add_none] at this
      exact this
    obtain ⟨xs, hxl, hx⟩ := list_of len hc
    exact ⟨_, _, _, xs, rfl, ⟨hxl, hl, hm, fun hn => ⟨b, o, rfl, hlt, hlt, fun i x hix => let ⟨cs, hq, _⟩ := hx i x hix; ⟨cs, hq⟩⟩⟩, fun y hy => by
      obtain ⟨i, hi', rfl⟩ := List.mem_iff_getElem.1 hy
      obtain ⟨cs, _, hq⟩ := hx i _ (List.getElem?_eq_getElem hi')
      exact hq⟩
theorem str_open_s (n : Nat) (cs : List Value) (x : DataW H × List MemPlace) (h : DataW.trod enc Tryd.prog w 0 spare held n 9 cs = some x) (hw : inReach x.1 9) :
    ∃ y : ByteArray, kStr.K (· < w.heap.size) w y cs ∧ y.size ≤ 140737488355328 := by
  obtain ⟨s, rfl, e, hm⟩ := DataW.trod_string Tryd.underlying9 h
  rw [e] at hw
  exact ⟨s, ⟨rfl, hm⟩, reach_str hw⟩
end Go.Proofs.YtckcadhjpjjmjaaDoor
