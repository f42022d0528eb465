/- The walks of layers 9 and 10: all fields of bytes; a reader of fields. No condition. -/
import Derived.Test.YtlfhbnajopekpaaFld3
import Derived.Test.YtlfhbnajopekpaaTok
namespace Go.Proofs.Ytlfhbnajopekpaa
open Go.RowKit

theorem fget_pos {l : List UInt8} {f : Fld} {k : Nat} (h : fget l = some (f, k)) : 0 < k ∧ k ≤ l.length ∧ f.value.size ≤ l.length := by
  cases l with
  | nil => simp [fget] at h
  | cons a r =>
    rw [fget] at h
    split at h
    · cases h
    · rename_i hc
      simp only [Option.some.injEq, Prod.mk.injEq] at h
      obtain ⟨rfl, rfl⟩ := h
      have := vget_le r
      simp only [List.length_drop] at hc
      refine ⟨by omega, by simp; omega, ?_⟩
      show (txt _).size ≤ _
      rw [txt_size]
      simp
      omega
/-- All fields of bytes. -/
def fall (l : List UInt8) : Option (List Fld) :=
  if l = [] then some [] else
    match _h : fget l with
    | none => none
    | some (f, k) => (fall (l.drop k)).map (f :: ·)
termination_by l.length
decreasing_by
  have := fget_pos _h
  simp only [List.length_drop]
  omega
theorem fall_nil : fall [] = some [] := by rw [fall]; rfl
theorem fall_none {l : List UInt8} (h0 : l ≠ []) (h : fget l = none) : fall l = none := by
  rw [fall, if_neg h0]
  split
  · rfl
  · rename_i f k h'; rw [h] at h'; cases h'
theorem fall_some {l : List UInt8} {f : Fld} {k : Nat} (h0 : l ≠ []) (h : fget l = some (f, k)) : fall l = (fall (l.drop k)).map (f :: ·) := by
  rw [fall, if_neg h0]
  split
  · rename_i h'; rw [h] at h'; cases h'
  · rename_i f' k' h'
    rw [h] at h'
    cases h'
    rfl
def FallPost (base : Nat) (w' : World) (e : Ending) (o : Option (List Fld)) : Prop :=
  ∃ v b, e = .returned (.tuple #[v, .bool b]) ∧ b = o.isSome ∧ kFld.Own (fun _ => True) base w' 117 v (o.getD [])
theorem fld_info : (Try.prog.info? 117).map (fun i => (i.zero, i.size, i.bytes)) = some (some (.agg #[.int .u8 0, .string ByteArray.empty]), 2, 24) := by kernel_rfl
theorem src_fld {ok ok' : Nat → Prop} {w : World} {A : Option Addr} {m : Nat} {xs : List Fld} (h : kFld.Src ok w A m xs) : kFld.Src ok' w A m xs := let ⟨h1, css, he, hc⟩ := h; ⟨h1, css, ⟨he.1, fun i x cs hx hcs => he.2 i x cs hx hcs⟩, hc⟩

set_option maxRecDepth 100000 in
set_option maxHeartbeats 800000 in
theorem c_fall (A : Option Addr) (n c : Nat) (xs : List UInt8) (ok : Nat → Prop) (w : World) (hR : kU8.Row ok w A n c xs) (hn : n ≤ 1099511627776) :
    Calls Try.prog 63 #[.slice A n c] w fun e w' => Below w.heap.size w w' ∧ FallPost w.heap.size w' e (fall xs) := by
  have HR := hide hR
  have HN := hide hn
  have HL := hide hR.1
  clear hR hn
  go_enter Try.func63, Try.ntmps63
  go_wp2
  go_loopw [0, 4] (fun b p wr => ∃ (A : Option Addr) (m c : Nat) (ys : List UInt8) (acc : List Fld), b = .slice A m c ∧ m ≤ 1099511627776 ∧ Hid (kU8.Row (· < w.heap.size) wr A m c ys) ∧ Hid (kFld.Own (fun _ => True) w.heap.size wr 117 p acc) ∧ Hid (acc.length + m ≤ n) ∧ Hid (fall xs = (fall ys).map (acc ++ ·)) ∧ Hid (Below w.heap.size w wr)) (fun b _ _ => match b with | .slice _ m _ => m | _ => 0)
  case atStart => exact ⟨A, n, c, xs, [], rfl, HN.out, hide (HR.out.bound.more fun _ h => h.2), hide (.nil _ _ _ _ _), hide (by simp), hide (by simp), hide (Below.refl _ _)⟩
  case round =>
    obtain ⟨A, m, c, ys, acc, rfl, hm, HR, HO, HC, HE, HB⟩ := hrel
    by_cases h0 : m = 0
    · subst h0
      have HY : Hid (ys = []) := hide (List.eq_nil_of_length_eq_zero HR.out.1)
      go_wp2_with fail
      exact bodyPost_ret (v := .tuple #[u4, .bool true]) (by simp [results, Try.results63, go_sem]) rfl ⟨HB.out, _, _, rfl, by rw [HE.out, HY.out, fall_nil]; rfl, by rw [HE.out, HY.out, fall_nil]; simpa using HO.out⟩
    · have HY : Hid (ys ≠ []) := hide (fun e => by have := HR.out.1; rw [e] at this; exact h0 this.symm)
      go_wp2_with fail
      refine (c_fget A m c ys _ wr HR.out).mono ?_
      rintro e w1 ⟨b1, rfl⟩
      have HB1 := hide (HB.out.trans (b1.mono HB.out.size))
      have HO1 := hide (HO.out.below b1)
      have HR1 := hide (HR.out.below b1)
      clear b1
      cases hg : fget ys with
      | none =>
        have HF : Hid (fall xs = none) := hide (by rw [HE.out, fall_none HY.out hg]; rfl)
        clear hg
        unfold fgetV
        go_wp2_with fail
        exact bodyPost_ret (v := .tuple #[.slice none 0 0, .bool false]) (by simp [results, Try.results63, go_sem]) rfl ⟨HB1.out.alloc HB1.out.size _, _, _, rfl, by rw [HF.out]; rfl, by rw [HF.out]; exact .nil _ _ _ _ _⟩
      | some fk =>
        obtain ⟨f, k⟩ := fk
        have hp := fget_pos hg
        rw [HR.out.1] at hp
        obtain ⟨hk0, hkm, hfs⟩ := hp
        have HFS := hide hfs
        have HE1 : Hid (fall xs = (fall (ys.drop k)).map ((acc ++ [f]) ++ ·)) := hide (by
          rw [HE.out, fall_some HY.out hg, Option.map_map]
          congr 1
          funext x
          simp)
        clear hg hfs
        obtain ⟨B, hs1, hB⟩ := HR1.out.from (P := Try.prog) Try.underlying60 (E := 5) (by kernel_rfl) (k := k) hkm .i64 k rfl
        have HRB := hide hB
        clear hB
        unfold fgetV
        simp only
        go_wp2_with (at_builtin; go_must (refine wpList_app (d := kFld) (ys := [f]) rfl _ _ _ rfl Try.underlying118 fld_info rfl (by decide) 1 rfl rfl (.inl ((HO1.out.below (below1 _ _)).below (below1 _ _))) (src_fld (ok := fun _ => True) (Kd.Src.new (d := kFld) ⟨rfl, ?_⟩ _ rfl _ ?_)) ?_ ?_ ?_ ?_))
        · have := HFS.out; simp only [maxLen]; omega
        · simp
        · have := HB1.out.size; simp; omega
        · have := HC.out; have := HN.out; simp only [maxLen]; omega
        · have := HC.out; have := HN.out; omega
        · intro v1 w2 _ h2 h3 h4 h5
          have H2 := hide h2
          have HB2 := hide (HB1.out.trans (((below2 w1 (.cells #[bv f.kind, .string f.value] 117) (.cells #[bv f.kind, .string f.value] 117)).mono HB1.out.size).trans h3))
          have HR2 := hide (HRB.out.belowB (((below2 w1 (.cells #[bv f.kind, .string f.value] 117) (.cells #[bv f.kind, .string f.value] 117)).mono HB1.out.size).trans h3))
          clear h2 h3 h4 h5
          go_wp2_with fail
          go_roundw
          case rel => exact ⟨B, m - k, c - k, ys.drop k, acc ++ [f], rfl, by omega, HR2, H2, hide (by have := HC.out; simp; omega), HE1, HB2⟩
          case measure => simp; omega
end Go.Proofs.Ytlfhbnajopekpaa
