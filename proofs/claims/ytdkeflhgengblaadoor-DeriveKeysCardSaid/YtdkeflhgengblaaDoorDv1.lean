/- Layer 6: a number's eight bytes, the frame of parts; the walks of tag.Number, derive.Frame and their answers. No condition. -/
import Derived.Test.YtdkeflhgengblaaDoorHm3
import Derived.Test.YtdkeflhgengblaaDoorRs5
import Derived.Test.YtdkeflhgengblaaDoorTagEq
namespace Go.Proofs.YtdkeflhgengblaaDoor
open Go.RowKit
def num8 (n : Nat) : List UInt8 := [UInt8.ofNat (n / 72057594037927936), UInt8.ofNat (n / 281474976710656), UInt8.ofNat (n / 1099511627776), UInt8.ofNat (n / 4294967296), UInt8.ofNat (n / 16777216), UInt8.ofNat (n / 65536), UInt8.ofNat (n / 256), UInt8.ofNat n]
theorem num8_len (n : Nat) : (num8 n).length = 8 := rfl
theorem put4_of (m : Nat) : put4 (UInt32.ofNat m) = [UInt8.ofNat (m / 16777216), UInt8.ofNat (m / 65536), UInt8.ofNat (m / 256), UInt8.ofNat m] := by
  have h24 : ((UInt32.ofNat m) >>> 24).toUInt8 = UInt8.ofNat (m / 16777216) := by
    apply UInt8.toNat_inj.1
    simp [Nat.shiftRight_eq_div_pow]
    omega
  have h16 : ((UInt32.ofNat m) >>> 16).toUInt8 = UInt8.ofNat (m / 65536) := by
    apply UInt8.toNat_inj.1
    simp [Nat.shiftRight_eq_div_pow]
    omega
  have h8 : ((UInt32.ofNat m) >>> 8).toUInt8 = UInt8.ofNat (m / 256) := by
    apply UInt8.toNat_inj.1
    simp [Nat.shiftRight_eq_div_pow]
    omega
  have h0 : (UInt32.ofNat m).toUInt8 = UInt8.ofNat m := by
    apply UInt8.toNat_inj.1
    simp
  rw [put4, h24, h16, h8, h0]
theorem num8_eq (n : Nat) : num8 n = put4 (UInt32.ofNat (n / 4294967296)) ++ put4 (UInt32.ofNat n) := by
  rw [put4_of, put4_of]
  simp only [Nat.div_div_eq_div_mul]
  rfl
/-- A part's frame; the frame of parts. -/
def frm (s : ByteArray) : List UInt8 := num8 s.size ++ byt s
def frames (l : List ByteArray) : List UInt8 := (l.map frm).flatten
theorem frames_cons (s : ByteArray) (l : List ByteArray) : frames (s :: l) = frm s ++ frames l := by simp [frames]
theorem frames_nil : frames [] = [] := rfl
theorem frm_len (s : ByteArray) : (frm s).length = 8 + s.size := by rw [frm, List.length_append, num8_len, byt_len]
theorem frames_step {l : List ByteArray} {k : Nat} {s : ByteArray} (h : l[k]? = some s) : ((l.map frm).take (k + 1)).flatten = ((l.map frm).take k).flatten ++ num8 s.size ++ byt s := by
  rw [flat_take_succ (x := frm s) (by rw [List.getElem?_map, h]; rfl), frm, List.append_assoc]
theorem frames_part {l : List ByteArray} {k : Nat} {s : ByteArray} (h : l[k]? = some s) : ((l.map frm).take k).flatten.length + (8 + s.size) ≤ (frames l).length := by
  have := flat_part (l := l.map frm) (k := k) (x := frm s) (by rw [List.getElem?_map, h]; rfl)
  rwa [frm_len] at this
theorem c_number (n : Nat) (w : World) (hn : n < 18446744073709551616) :
    Calls Tryd.prog 74 #[.int .u64 (n : Int)] w fun e w' => ∃ v, e = .returned v ∧ kU8.Own (fun _ => True) w.heap.size w' 5 v (num8 n) ∧ Below w.heap.size w w' := by
  have HN := hide hn
  clear hn
  go_enter Tryd.func74, Tryd.ntmps74
  go_wp2_with fail
  rw [show ((n : Int) / 4294967296 % 4294967296) = ((UInt32.ofNat (n / 4294967296)).toNat : Int) by rw [← u32_of]; omega]
  refine (c_put none 0 0 [] _ _ w (Kd.Row.nil _ (fun _ => True) _ _ _ (Nat.zero_le _)) (Nat.zero_le _)).mono ?_
  rintro e w1 ⟨v1, rfl, h1, b1⟩
  obtain ⟨A1, c1, rfl, hr1⟩ := own_row h1
  have HR1 := hide hr1
  have HB1 := hide b1
  clear h1 hr1 b1
  go_wp2_with fail
  rw [show ((n : Int) % 4294967296) = ((UInt32.ofNat n).toNat : Int) by rw [← u32_of]]
  refine (c_put A1 _ c1 _ _ _ w1 HR1.out (by simp [put4])).mono ?_
  rintro e w2 ⟨v2, rfl, h2, b2⟩
  have H2 := hide (h2.lower HB1.out.size)
  have HB2 := hide (bnext HB1.out b2)
  clear h2 b2
  go_wp2_with fail
  go_ret
  refine ⟨_, rfl, ?_, HB2.out⟩
  rw [num8_eq]
  exact H2.out
theorem str_info : (Tryd.prog.info? 9).map (·.size) = some kStr.sz := by kernel_rfl
theorem row_str {ok : Nat → Prop} {w : World} {A : Option Addr} {n c : Nat} {l : List ByteArray} (h : kStr.Row ok w A n c l) {i : Nat} {x : ByteArray} (hx : l[i]? = some x) :
    ∃ p o, (∀ wx : World, (Instr.indexAt 34 (.slice A n c) (.int .i64 (i : Int))).run Tryd.prog wx = .ok (.pointer (some ⟨p, o, none⟩)) wx) ∧ w.cell? ⟨p, o, none⟩ = some (.string x) ∧ p < w.heap.size ∧ x.size ≤ maxLen := by
  obtain ⟨p, o, cs, hi, -, hb, hk, hra⟩ := h.index (P := Tryd.prog) Tryd.underlying34 (E := 9) str_info hx
  obtain ⟨rfl, hm⟩ := hk
  exact ⟨p, o, hi, by simpa using hra 0 _ rfl, hb, hm⟩
theorem wrapU64 (n : Nat) (h : n ≤ maxLen) : IntKind.u64.wrap (n : Int) = (n : Int) := by rw [IntKind.wrap_u64]; simp only [maxLen] at h; omega
set_option maxRecDepth 100000 in
set_option maxHeartbeats 400000 in
theorem c_frame (B : Option Addr) (m d : Nat) (l : List ByteArray) (ok : Nat → Prop) (w : World) (hR : kStr.Row ok w B m d l) (hn : (frames l).length < 140737488355328) :
    Calls Tryd.prog 20 #[.slice B m d] w fun e w' => ∃ v, e = .returned v ∧ kU8.Own (fun _ => True) w.heap.size w' 5 v (frames l) ∧ Below w.heap.size w w' := by
  have HR := hide (hR.bound.more (ok' := fun k => k < w.heap.size) fun k h => h.2)
  have HN := hide hn
  have HLL := hide hR.1
  have hm63 : m ≤ 9223372036854775807 := Nat.le_trans hR.2.1 hR.2.2.1
  have HV0 := hide (Kd.Own.nil kU8 (fun _ => True) w.heap.size w 5)
  have HB0 := hide (Below.refl w.heap.size w)
  clear hR hn
  go_enter Tryd.func20, Tryd.ntmps20
  go_wp2_with fail
  go_loopw [3, 8] (fun v i wr => ∃ (k : Nat), k ≤ m ∧ i = .int .i64 (k : Int) ∧ Hid (kU8.Own (fun _ => True) w.heap.size wr 5 v ((l.map frm).take k).flatten) ∧ Hid (Below w.heap.size w wr)) (fun _ i _ => m - (intOf i).toNat)
  case atStart => exact ⟨0, Nat.zero_le _, rfl, HV0, HB0⟩
  case round =>
    clear HV0 HB0
    obtain ⟨k, hk, rfl, HV, HB⟩ := hrel
    have hwr := HB.out.size
    by_cases hlt : k < m
    · obtain ⟨s, hs⟩ : ∃ s, l[k]? = some s := ⟨_, List.getElem?_eq_getElem (by have := HLL.out; omega)⟩
      obtain ⟨p, o, hip, hcp, hpb, hsm⟩ := row_str (HR.out.belowB HB.out) hs
      have HST := hide (frames_step hs)
      have HPT := hide (frames_part hs)
      have hwz := wrapU64 s.size hsm
      obtain ⟨L, hL⟩ : ∃ L, L = ((l.map frm).take k).flatten := ⟨_, rfl⟩
      rw [← hL] at HST HPT HV
      obtain ⟨AV, cV, hvf⟩ := HV.out.form
      rw [hvf] at HV ⊢
      have HSM := hide hsm
      clear hs hL hvf hsm
      go_wp2_with fail
      try rw [hwz]
      refine (c_number s.size wr (by have := HSM.out; simp only [maxLen] at this; omega)).mono ?_
      rintro e w1 ⟨v1, rfl, h1, b1⟩
      obtain ⟨A1, c1, rfl, hr1⟩ := own_row h1
      rw [num8_len] at hr1 ⊢
      have HR1 := hide hr1
      have HV1 := hide (HV.out.below b1)
      have HB1 := hide (HB.out.trans (b1.mono hwr))
      have hw1 := HB1.out.size
      clear h1 hr1 b1 hwz
      go_wp2_with (at_builtin; go_loud (refine wpList_app (d := kU8) (ok := fun _ => True) (base := w.heap.size) rfl _ _ _ rfl Tryd.underlying22 u8_info rfl (by decide) c1 rfl rfl (.inl HV1.out) (src8 HR1.out.src) ?_ ?_ ?_ ?_))
      · exact hw1
      · have := HPT.out; have := HN.out; simp only [maxLen]; omega
      · have := HPT.out; have := HN.out; omega
      intro v2 w2 _ h2 b2 _ _
      obtain ⟨L2, hL2⟩ : ∃ L2, L2 = L ++ num8 s.size := ⟨_, rfl⟩
      have HL2 : Hid (L2.length = L.length + 8) := hide (by rw [hL2, List.length_append, num8_len])
      rw [← hL2] at h2 HST
      obtain ⟨A2, c2, hvf2⟩ := h2.form
      rw [hvf2] at h2 ⊢
      clear hL2
      have HV2 := hide h2
      have HB2 := hide (HB1.out.trans b2)
      have hw2 := HB2.out.size
      have hcs := HR.out.belowB HB2.out
      clear h2 b2 hvf2 HV1 HB1 HR1
      go_wp2_with (at_builtin; go_loud (refine wpList_app_str rfl _ _ _ _ rfl Tryd.underlying22 Tryd.underlying9 u8_info s rfl rfl (.inl HV2.out) hw2 ?_ ?_))
      · have := HPT.out; have := HN.out; have := HL2.out; omega
      intro v3 w3 _ h3 b3 _ _
      have h3 := h3 (.inr HV2.out)
      rw [← HST.out] at h3
      have HV3 := hide h3
      have HB3 := hide (HB2.out.trans b3)
      clear h3 b3 hcs
      go_wp2_with fail
      go_roundw
      case rel => exact ⟨k + 1, by omega, by simp, HV3, HB3⟩
      case measure => simp [intOf]; omega
    · obtain rfl : m = k := by omega
      go_wp2_with fail
      go_ret
      refine ⟨_, rfl, ?_, HB.out⟩
      have := HV.out
      rwa [List.take_of_length_le (by rw [List.length_map, HLL.out]; exact Nat.le_refl _)] at this
end Go.Proofs.YtdkeflhgengblaaDoor
