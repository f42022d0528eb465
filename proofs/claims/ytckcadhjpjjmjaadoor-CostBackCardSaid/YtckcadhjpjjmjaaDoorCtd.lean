/- The statement CostBack, for every input, and its tied card. No condition. -/
import Derived.Test.YtckcadhjpjjmjaaDoorCtc
import Derived.Test.YtckcadhjpjjmjaaDoorCta
import Derived.Test.YtckcadhjpjjmjaaDoorCtb
import Derived.Stop.LaidErr
import Derived.Test.YtckcadhjpjjmjaaDoorChecked
import Derived.SizedLaws
import Derived.Test.YtckcadhjpjjmjaaDoorRows
import Derived.Test.YtckcadhjpjjmjaaDoorTie
import Derived.Test.YtckcadhjpjjmjaaDoorCards
import Derived.SevenTiedAt
namespace Go.Proofs.YtckcadhjpjjmjaaDoor
open Go.RowKit
def ParP (x : List UInt8) (e : Ending) : Prop := ∃ (g : Nat) (ok : Bool), e = .returned (.tuple #[.float .f64 g, .bool ok]) ∧ parseB x = okN g ok ∧ (ok = false → g = 0)
def ldG (n : Nat) (p : Int) : Nat := if n = 0 then 0 else ldW (intW n) p
theorem ldG_le (n : Nat) (p : Int) : ldG n p ≤ 9218868437227405312 := by
  unfold ldG
  split
  · decide
  · exact ldW_le _ _
theorem c_ldG (n : Nat) (p : Int) (hn : n ≤ 9007199254740991) (h1 : -9223372036854775808 ≤ p) (h2 : p ≤ 9223372036854775807) (w : World) : Calls Tryd.prog 71 #[.float .f64 (floatOfInt .f64 (n : Int)), .int .i64 p] w fun e w' => e = .returned (.float .f64 (ldG n p)) ∧ w' = w := by
  by_cases h0 : n = 0
  · subst h0
    have e1 : floatOfInt .f64 ((0 : Nat) : Int) = 0 := near_zero
    rw [e1, ldG, if_pos rfl]
    exact c_Ldexp0 p w
  · have e1 : floatOfInt .f64 (n : Int) = intW n := near_int (by omega) h0
    obtain ⟨r1, r2⟩ := intW_rng (n := n) (by omega) h0
    rw [e1, ldG, if_neg h0]
    exact c_Ldexp (intW n) p r1 r2 h1 h2 w
theorem cand_eq (x : List UInt8) : candB x = (if (cutM x).2 = true then 9223372036854775808 else 0) + (if (cutM x).1 = [105, 110, 102] then 9218868437227405312 else ldG (headN (cutH (cutM x).1)) (atoiV (cutT (cutM x).1))) := by
  unfold candB cutM
  by_cases h : x.head? = some 45
  · rw [if_pos h, if_pos h, if_pos rfl]; rfl
  · rw [if_neg h, if_neg h, if_neg Bool.false_ne_true, Nat.zero_add]; rfl
theorem cutM_len (x : List UInt8) : (cutM x).1.length ≤ x.length := by
  unfold cutM
  split
  · exact List.length_tail ▸ Nat.sub_le _ _
  · exact Nat.le_refl _
theorem cutH_len (x : List UInt8) : (cutH x).length ≤ x.length := by
  by_cases h : (112 : UInt8) ∈ x
  · have := congrArg List.length (cut_of h)
    rw [List.length_append] at this; omega
  · rw [(cut_no x h).1]; exact Nat.le_refl _
theorem cutT_len (x : List UInt8) : (cutT x).length ≤ x.length := by
  by_cases h : (112 : UInt8) ∈ x
  · have := congrArg List.length (cut_of h)
    rw [List.length_append, List.length_cons] at this; omega
  · rw [(cut_no x h).2]; exact Nat.zero_le _
set_option maxRecDepth 100000 in
set_option maxHeartbeats 3200000 in
theorem c_parse (x : List UInt8) (m : Int) (w : World) (hx : x.length ≤ 1000000) (hN : NumAt w) (hT : TzAt w) (hP : PowAt w) (hm : w.cell? ⟨5, 0, none⟩ = some (.int .i64 m)) :
    Calls Tryd.prog 43 #[.string (txt x)] w fun e w' => ParP x e ∧ Below w.heap.size w w' := by
  have HCM := hide (c_cutm x w)
  have hce := cand_eq x
  obtain ⟨cm, hcm⟩ : ∃ cm, cutM x = cm := ⟨_, rfl⟩
  have hrl := cutM_len x
  rw [hcm] at HCM hce hrl
  obtain ⟨r, b⟩ := cm
  have HRL : Hid (r.length ≤ 1000000) := hide (Nat.le_trans hrl hx)
  have hHl := cutH_len r
  have hTl := cutT_len r
  have HCU := hide (fun w hm => c_cut r m w HRL.out hm)
  obtain ⟨H, hH⟩ : ∃ H, cutH r = H := ⟨_, rfl⟩
  obtain ⟨T, hTT⟩ : ∃ T, cutT r = T := ⟨_, rfl⟩
  have HCU2 : Hid (∀ w, w.cell? ⟨5, 0, none⟩ = some (.int .i64 m) → Calls Tryd.prog 73 #[.string (txt r), .string ⟨#[112]⟩] w fun e w' => (∃ b : Bool, e = .returned (.tuple #[.string (txt H), .string (txt T), .bool b])) ∧ Below w.heap.size w w') := hide (fun w hm => (HCU.out w hm).mono fun e w' ⟨h1, h2⟩ => ⟨by rw [← hH, ← hTT]; exact h1, h2⟩)
  have hce2 : candB x = (if b = true then 9223372036854775808 else 0) + (if r = [105, 110, 102] then 9218868437227405312 else ldG (headN H) (atoiV T)) := by rw [hce, hH, hTT]
  have HPU := hide (fun w hN => c_pu H w (by rw [← hH]; have := HRL.out; omega) hN)
  have HAT := hide (fun w hN => c_atoi T w (by rw [← hTT]; have := HRL.out; omega) hN)
  obtain ⟨p1, p2⟩ := atoi_rng T
  have HLD := hide (c_ldG (headN H) (atoiV T) (puU_le 10 9007199254740991 H) p1 p2)
  have HGL := hide (ldG_le (headN H) (atoiV T))
  obtain ⟨g, hg⟩ : ∃ g, ldG (headN H) (atoiV T) = g := ⟨_, rfl⟩
  rw [hg] at HLD HGL hce2
  obtain ⟨n, hn⟩ : ∃ n, headN H = n := ⟨_, rfl⟩
  obtain ⟨p, hp⟩ : ∃ p, atoiV T = p := ⟨_, rfl⟩
  rw [hn] at HPU HLD
  rw [hp] at HAT HLD
  have HCE := hide hce2
  have HNN := hide hN
  have HTT := hide hT
  have HPP := hide hP
  have HMM := hide hm
  have HXX := hide hx
  clear hce hcm hrl HCU hHl hTl hH hTT hce2 p1 p2 hg hn hp hN hT hP hm hx
  by_cases hx0 : x = []
  · have HE : Hid (parseB x = none) := hide (by rw [parseB, if_pos hx0])
    have hxe : (x == []) = true := beq_iff_eq.2 hx0
    clear hx0
    by_cases hi : r = [105, 110, 102]
    · have hri : (r == [105, 110, 102]) = true := beq_iff_eq.2 hi
      clear hi
      cases b with
      | true =>
        go_enter Tryd.func43, Tryd.ntmps43
        go_wp2_with fail
        refine HCM.out.mono ?_
        rintro e w1 ⟨rfl, rfl⟩
        go_wp2_with fail
        refine (HCU2.out w1 HMM.out).mono ?_
        rintro e w2 ⟨⟨fnd, rfl⟩, b2⟩
        have HB2 := hide b2
        have HN2 := hide (HNN.out.below b2)
        clear b2
        go_wp2_with fail
        refine (HPU.out w2 HN2.out).mono ?_
        rintro e w3 ⟨⟨v3, rfl⟩, b3⟩
        have HB3 := hide (HB2.out.trans (b3.mono HB2.out.size))
        have HN3 := hide (HN2.out.below b3)
        clear b3
        go_wp2_with fail
        refine (HAT.out w3 HN3.out).mono ?_
        rintro e w4 ⟨⟨v4, rfl⟩, b4⟩
        have HB4 := hide (HB3.out.trans (b4.mono HB3.out.size))
        clear b4
        go_wp2_with fail
        refine (HLD.out w4).mono ?_
        rintro e w5 ⟨rfl, rfl⟩
        go_wp2_with fail
        refine (c_minf _).mono ?_
        rintro e w6 ⟨rfl, rfl⟩
        go_wp2_with fail
        refine (c_copyn _ (by decide) _).mono ?_
        rintro e w7 ⟨rfl, rfl⟩
        go_wp2_with fail
        exact bodyPost_ret (v := .tuple #[.float .f64 0, .bool false]) (by simp [results, Tryd.results43, go_sem]) rfl ⟨⟨0, false, rfl, HE.out, fun _ => rfl⟩, HB4.out⟩
      | false =>
        go_enter Tryd.func43, Tryd.ntmps43
        go_wp2_with fail
        refine HCM.out.mono ?_
        rintro e w1 ⟨rfl, rfl⟩
        go_wp2_with fail
        refine (HCU2.out w1 HMM.out).mono ?_
        rintro e w2 ⟨⟨fnd, rfl⟩, b2⟩
        have HB2 := hide b2
        have HN2 := hide (HNN.out.below b2)
        clear b2
        go_wp2_with fail
        refine (HPU.out w2 HN2.out).mono ?_
        rintro e w3 ⟨⟨v3, rfl⟩, b3⟩
        have HB3 := hide (HB2.out.trans (b3.mono HB2.out.size))
        have HN3 := hide (HN2.out.below b3)
        clear b3
        go_wp2_with fail
        refine (HAT.out w3 HN3.out).mono ?_
        rintro e w4 ⟨⟨v4, rfl⟩, b4⟩
        have HB4 := hide (HB3.out.trans (b4.mono HB3.out.size))
        clear b4
        go_wp2_with fail
        refine (HLD.out w4).mono ?_
        rintro e w5 ⟨rfl, rfl⟩
        go_wp2_with fail
        refine (c_minf _).mono ?_
        rintro e w6 ⟨rfl, rfl⟩
        go_wp2_with fail
        exact bodyPost_ret (v := .tuple #[.float .f64 0, .bool false]) (by simp [results, Tryd.results43, go_sem]) rfl ⟨⟨0, false, rfl, HE.out, fun _ => rfl⟩, HB4.out⟩
    · have hri : (r == [105, 110, 102]) = false := beq_eq_false_iff_ne.2 hi
      clear hi
      cases b with
      | true =>
        go_enter Tryd.func43, Tryd.ntmps43
        go_wp2_with fail
        refine HCM.out.mono ?_
        rintro e w1 ⟨rfl, rfl⟩
        go_wp2_with fail
        refine (HCU2.out w1 HMM.out).mono ?_
        rintro e w2 ⟨⟨fnd, rfl⟩, b2⟩
        have HB2 := hide b2
        have HN2 := hide (HNN.out.below b2)
        clear b2
        go_wp2_with fail
        refine (HPU.out w2 HN2.out).mono ?_
        rintro e w3 ⟨⟨v3, rfl⟩, b3⟩
        have HB3 := hide (HB2.out.trans (b3.mono HB2.out.size))
        have HN3 := hide (HN2.out.below b3)
        clear b3
        go_wp2_with fail
        refine (HAT.out w3 HN3.out).mono ?_
        rintro e w4 ⟨⟨v4, rfl⟩, b4⟩
        have HB4 := hide (HB3.out.trans (b4.mono HB3.out.size))
        clear b4
        go_wp2_with fail
        refine (HLD.out w4).mono ?_
        rintro e w5 ⟨rfl, rfl⟩
        go_wp2_with fail
        refine (c_copyn _ HGL.out _).mono ?_
        rintro e w7 ⟨rfl, rfl⟩
        go_wp2_with fail
        exact bodyPost_ret (v := .tuple #[.float .f64 0, .bool false]) (by simp [results, Tryd.results43, go_sem]) rfl ⟨⟨0, false, rfl, HE.out, fun _ => rfl⟩, HB4.out⟩
      | false =>
        go_enter Tryd.func43, Tryd.ntmps43
        go_wp2_with fail
        refine HCM.out.mono ?_
        rintro e w1 ⟨rfl, rfl⟩
        go_wp2_with fail
        refine (HCU2.out w1 HMM.out).mono ?_
        rintro e w2 ⟨⟨fnd, rfl⟩, b2⟩
        have HB2 := hide b2
        have HN2 := hide (HNN.out.below b2)
        clear b2
        go_wp2_with fail
        refine (HPU.out w2 HN2.out).mono ?_
        rintro e w3 ⟨⟨v3, rfl⟩, b3⟩
        have HB3 := hide (HB2.out.trans (b3.mono HB2.out.size))
        have HN3 := hide (HN2.out.below b3)
        clear b3
        go_wp2_with fail
        refine (HAT.out w3 HN3.out).mono ?_
        rintro e w4 ⟨⟨v4, rfl⟩, b4⟩
        have HB4 := hide (HB3.out.trans (b4.mono HB3.out.size))
        clear b4
        go_wp2_with fail
        refine (HLD.out w4).mono ?_
        rintro e w5 ⟨rfl, rfl⟩
        go_wp2_with fail
        exact bodyPost_ret (v := .tuple #[.float .f64 0, .bool false]) (by simp [results, Tryd.results43, go_sem]) rfl ⟨⟨0, false, rfl, HE.out, fun _ => rfl⟩, HB4.out⟩
  · have hxe : (x == []) = false := beq_eq_false_iff_ne.2 hx0
    by_cases hi : r = [105, 110, 102]
    · have hri : (r == [105, 110, 102]) = true := beq_iff_eq.2 hi
      cases b with
      | true =>
        have HCZ : Hid (candB x = 9223372036854775808 + 9218868437227405312) := hide (by rw [HCE.out, if_pos rfl, if_pos hi])
        have HZL : Hid (9223372036854775808 + 9218868437227405312 < 18446744073709551616) := hide (by decide)
        clear hi
        go_enter Tryd.func43, Tryd.ntmps43
        go_wp2_with fail
        refine HCM.out.mono ?_
        rintro e w1 ⟨rfl, rfl⟩
        go_wp2_with fail
        refine (HCU2.out w1 HMM.out).mono ?_
        rintro e w2 ⟨⟨fnd, rfl⟩, b2⟩
        have HB2 := hide b2
        have HN2 := hide (HNN.out.below b2)
        clear b2
        go_wp2_with fail
        refine (HPU.out w2 HN2.out).mono ?_
        rintro e w3 ⟨⟨v3, rfl⟩, b3⟩
        have HB3 := hide (HB2.out.trans (b3.mono HB2.out.size))
        have HN3 := hide (HN2.out.below b3)
        clear b3
        go_wp2_with fail
        refine (HAT.out w3 HN3.out).mono ?_
        rintro e w4 ⟨⟨v4, rfl⟩, b4⟩
        have HB4 := hide (HB3.out.trans (b4.mono HB3.out.size))
        clear b4
        go_wp2_with fail
        refine (HLD.out w4).mono ?_
        rintro e w5 ⟨rfl, rfl⟩
        go_wp2_with fail
        refine (c_minf _).mono ?_
        rintro e w6 ⟨rfl, rfl⟩
        go_wp2_with fail
        refine (c_copyn _ (by decide) _).mono ?_
        rintro e w7 ⟨rfl, rfl⟩
        go_wp2_with fail
        refine (c_text _ HZL.out _ (tab_below HTT.out HB4.out) (tab_below HPP.out HB4.out)).mono ?_
        rintro e w8 ⟨rfl, b8⟩
        have HB8 := hide (HB4.out.trans (b8.mono HB4.out.size))
        clear b8
        obtain ⟨D, hD⟩ : ∃ D, ctext (9223372036854775808 + 9218868437227405312) = D := ⟨_, rfl⟩
        rw [hD]
        by_cases hDx : D = x
        · have hbq : (D == x) = true := beq_iff_eq.2 hDx
          have HE : Hid (parseB x = some (9223372036854775808 + 9218868437227405312)) := hide (by rw [parseB, if_neg hx0, HCZ.out, if_pos (by rw [hD]; exact hDx)])
          clear hDx hD
          go_wp2_with fail
          exact bodyPost_ret (v := .tuple #[.float .f64 (9223372036854775808 + 9218868437227405312), .bool true]) (by simp [results, Tryd.results43, go_sem]) rfl ⟨⟨(9223372036854775808 + 9218868437227405312), true, rfl, HE.out, fun h => by cases h⟩, HB8.out⟩
        · have hbq : (D == x) = false := beq_eq_false_iff_ne.2 hDx
          have HE : Hid (parseB x = none) := hide (by rw [parseB, if_neg hx0, HCZ.out, if_neg (by rw [hD]; exact hDx)])
          clear hDx hD
          go_wp2_with fail
          exact bodyPost_ret (v := .tuple #[.float .f64 0, .bool false]) (by simp [results, Tryd.results43, go_sem]) rfl ⟨⟨0, false, rfl, HE.out, fun _ => rfl⟩, HB8.out⟩
      | false =>
        have HCZ : Hid (candB x = 9218868437227405312) := hide (by rw [HCE.out, if_neg (by decide), if_pos hi, Nat.zero_add])
        have HZL : Hid (9218868437227405312 < 18446744073709551616) := hide (by decide)
        clear hi
        go_enter Tryd.func43, Tryd.ntmps43
        go_wp2_with fail
        refine HCM.out.mono ?_
        rintro e w1 ⟨rfl, rfl⟩
        go_wp2_with fail
        refine (HCU2.out w1 HMM.out).mono ?_
        rintro e w2 ⟨⟨fnd, rfl⟩, b2⟩
        have HB2 := hide b2
        have HN2 := hide (HNN.out.below b2)
        clear b2
        go_wp2_with fail
        refine (HPU.out w2 HN2.out).mono ?_
        rintro e w3 ⟨⟨v3, rfl⟩, b3⟩
        have HB3 := hide (HB2.out.trans (b3.mono HB2.out.size))
        have HN3 := hide (HN2.out.below b3)
        clear b3
        go_wp2_with fail
        refine (HAT.out w3 HN3.out).mono ?_
        rintro e w4 ⟨⟨v4, rfl⟩, b4⟩
        have HB4 := hide (HB3.out.trans (b4.mono HB3.out.size))
        clear b4
        go_wp2_with fail
        refine (HLD.out w4).mono ?_
        rintro e w5 ⟨rfl, rfl⟩
        go_wp2_with fail
        refine (c_minf _).mono ?_
        rintro e w6 ⟨rfl, rfl⟩
        go_wp2_with fail
        refine (c_text _ HZL.out _ (tab_below HTT.out HB4.out) (tab_below HPP.out HB4.out)).mono ?_
        rintro e w8 ⟨rfl, b8⟩
        have HB8 := hide (HB4.out.trans (b8.mono HB4.out.size))
        clear b8
        obtain ⟨D, hD⟩ : ∃ D, ctext (9218868437227405312) = D := ⟨_, rfl⟩
        rw [hD]
        by_cases hDx : D = x
        · have hbq : (D == x) = true := beq_iff_eq.2 hDx
          have HE : Hid (parseB x = some (9218868437227405312)) := hide (by rw [parseB, if_neg hx0, HCZ.out, if_pos (by rw [hD]; exact hDx)])
          clear hDx hD
          go_wp2_with fail
          exact bodyPost_ret (v := .tuple #[.float .f64 (9218868437227405312), .bool true]) (by simp [results, Tryd.results43, go_sem]) rfl ⟨⟨(9218868437227405312), true, rfl, HE.out, fun h => by cases h⟩, HB8.out⟩
        · have hbq : (D == x) = false := beq_eq_false_iff_ne.2 hDx
          have HE : Hid (parseB x = none) := hide (by rw [parseB, if_neg hx0, HCZ.out, if_neg (by rw [hD]; exact hDx)])
          clear hDx hD
          go_wp2_with fail
          exact bodyPost_ret (v := .tuple #[.float .f64 0, .bool false]) (by simp [results, Tryd.results43, go_sem]) rfl ⟨⟨0, false, rfl, HE.out, fun _ => rfl⟩, HB8.out⟩
    · have hri : (r == [105, 110, 102]) = false := beq_eq_false_iff_ne.2 hi
      cases b with
      | true =>
        have HCZ : Hid (candB x = 9223372036854775808 + g) := hide (by rw [HCE.out, if_pos rfl, if_neg hi])
        have HZL : Hid (9223372036854775808 + g < 18446744073709551616) := hide (by have := HGL.out; omega)
        clear hi
        go_enter Tryd.func43, Tryd.ntmps43
        go_wp2_with fail
        refine HCM.out.mono ?_
        rintro e w1 ⟨rfl, rfl⟩
        go_wp2_with fail
        refine (HCU2.out w1 HMM.out).mono ?_
        rintro e w2 ⟨⟨fnd, rfl⟩, b2⟩
        have HB2 := hide b2
        have HN2 := hide (HNN.out.below b2)
        clear b2
        go_wp2_with fail
        refine (HPU.out w2 HN2.out).mono ?_
        rintro e w3 ⟨⟨v3, rfl⟩, b3⟩
        have HB3 := hide (HB2.out.trans (b3.mono HB2.out.size))
        have HN3 := hide (HN2.out.below b3)
        clear b3
        go_wp2_with fail
        refine (HAT.out w3 HN3.out).mono ?_
        rintro e w4 ⟨⟨v4, rfl⟩, b4⟩
        have HB4 := hide (HB3.out.trans (b4.mono HB3.out.size))
        clear b4
        go_wp2_with fail
        refine (HLD.out w4).mono ?_
        rintro e w5 ⟨rfl, rfl⟩
        go_wp2_with fail
        refine (c_copyn _ HGL.out _).mono ?_
        rintro e w7 ⟨rfl, rfl⟩
        go_wp2_with fail
        refine (c_text _ HZL.out _ (tab_below HTT.out HB4.out) (tab_below HPP.out HB4.out)).mono ?_
        rintro e w8 ⟨rfl, b8⟩
        have HB8 := hide (HB4.out.trans (b8.mono HB4.out.size))
        clear b8
        obtain ⟨D, hD⟩ : ∃ D, ctext (9223372036854775808 + g) = D := ⟨_, rfl⟩
        rw [hD]
        by_cases hDx : D = x
        · have hbq : (D == x) = true := beq_iff_eq.2 hDx
          have HE : Hid (parseB x = some (9223372036854775808 + g)) := hide (by rw [parseB, if_neg hx0, HCZ.out, if_pos (by rw [hD]; exact hDx)])
          clear hDx hD
          go_wp2_with fail
          exact bodyPost_ret (v := .tuple #[.float .f64 (9223372036854775808 + g), .bool true]) (by simp [results, Tryd.results43, go_sem]) rfl ⟨⟨(9223372036854775808 + g), true, rfl, HE.out, fun h => by cases h⟩, HB8.out⟩
        · have hbq : (D == x) = false := beq_eq_false_iff_ne.2 hDx
          have HE : Hid (parseB x = none) := hide (by rw [parseB, if_neg hx0, HCZ.out, if_neg (by rw [hD]; exact hDx)])
          clear hDx hD
          go_wp2_with fail
          exact bodyPost_ret (v := .tuple #[.float .f64 0, .bool false]) (by simp [results, Tryd.results43, go_sem]) rfl ⟨⟨0, false, rfl, HE.out, fun _ => rfl⟩, HB8.out⟩
      | false =>
        have HCZ : Hid (candB x = g) := hide (by rw [HCE.out, if_neg (by decide), if_neg hi, Nat.zero_add])
        have HZL : Hid (g < 18446744073709551616) := hide (by have := HGL.out; omega)
        clear hi
        go_enter Tryd.func43, Tryd.ntmps43
        go_wp2_with fail
        refine HCM.out.mono ?_
        rintro e w1 ⟨rfl, rfl⟩
        go_wp2_with fail
        refine (HCU2.out w1 HMM.out).mono ?_
        rintro e w2 ⟨⟨fnd, rfl⟩, b2⟩
        have HB2 := hide b2
        have HN2 := hide (HNN.out.below b2)
        clear b2
        go_wp2_with fail
        refine (HPU.out w2 HN2.out).mono ?_
        rintro e w3 ⟨⟨v3, rfl⟩, b3⟩
        have HB3 := hide (HB2.out.trans (b3.mono HB2.out.size))
        have HN3 := hide (HN2.out.below b3)
        clear b3
        go_wp2_with fail
        refine (HAT.out w3 HN3.out).mono ?_
        rintro e w4 ⟨⟨v4, rfl⟩, b4⟩
        have HB4 := hide (HB3.out.trans (b4.mono HB3.out.size))
        clear b4
        go_wp2_with fail
        refine (HLD.out w4).mono ?_
        rintro e w5 ⟨rfl, rfl⟩
        go_wp2_with fail
        refine (c_text _ HZL.out _ (tab_below HTT.out HB4.out) (tab_below HPP.out HB4.out)).mono ?_
        rintro e w8 ⟨rfl, b8⟩
        have HB8 := hide (HB4.out.trans (b8.mono HB4.out.size))
        clear b8
        obtain ⟨D, hD⟩ : ∃ D, ctext (g) = D := ⟨_, rfl⟩
        rw [hD]
        by_cases hDx : D = x
        · have hbq : (D == x) = true := beq_iff_eq.2 hDx
          have HE : Hid (parseB x = some (g)) := hide (by rw [parseB, if_neg hx0, HCZ.out, if_pos (by rw [hD]; exact hDx)])
          clear hDx hD
          go_wp2_with fail
          exact bodyPost_ret (v := .tuple #[.float .f64 (g), .bool true]) (by simp [results, Tryd.results43, go_sem]) rfl ⟨⟨(g), true, rfl, HE.out, fun h => by cases h⟩, HB8.out⟩
        · have hbq : (D == x) = false := beq_eq_false_iff_ne.2 hDx
          have HE : Hid (parseB x = none) := hide (by rw [parseB, if_neg hx0, HCZ.out, if_neg (by rw [hD]; exact hDx)])
          clear hDx hD
          go_wp2_with fail
          exact bodyPost_ret (v := .tuple #[.float .f64 0, .bool false]) (by simp [results, Tryd.results43, go_sem]) rfl ⟨⟨0, false, rfl, HE.out, fun _ => rfl⟩, HB8.out⟩
end Go.Proofs.YtckcadhjpjjmjaaDoor
namespace Go.Proofs.YtckcadhjpjjmjaaDoor
open Go.RowKit
theorem okN_inj {g h : Nat} {a b : Bool} (e : okN g a = okN h b) (ha : a = false → g = 0) (hb : b = false → h = 0) : a = b ∧ g = h := by
  cases a with
  | true =>
    cases b with
    | true => exact ⟨rfl, Option.some.inj e⟩
    | false => cases e
  | false =>
    cases b with
    | true => cases e
    | false => exact ⟨rfl, (ha rfl).trans (hb rfl).symm⟩
theorem c_same15 (a : Nat) (w : World) : Calls Tryd.prog 47 #[.float .f64 a, .float .f64 a] w fun e w' => e = .returned (.bool true) ∧ w' = w := by
  have h := run_fbits a
  go_enter Tryd.func47, Tryd.ntmps47
  go_wp2_with fail
  go_ret
  exact ⟨rfl, rfl⟩
theorem ctext_len {f : Nat} : (ctext f).length ≤ 1000000 := by
  by_cases hn : nanD f = true
  · rw [ctext, if_pos hn]; exact Nat.zero_le _
  · rw [ctext, if_neg hn]
    have hb : f % 9223372036854775808 ≤ 9218868437227405312 := by
      rw [nan_iff] at hn
      have := of_decide_eq_false (by simpa using hn : decide (9218868437227405312 < f % 9223372036854775808) = false)
      omega
    have ha : (absT (f % 9223372036854775808)).length ≤ 30 := by
      by_cases h1 : f % 9223372036854775808 = 9218868437227405312
      · rw [absT, if_pos h1]; decide
      · by_cases h0 : f % 9223372036854775808 = 0
        · rw [absT, if_neg h1, if_pos h0]; decide
        · obtain ⟨o1, -⟩ := odd_lt (b := f % 9223372036854775808) (by omega)
          obtain ⟨q1, q2⟩ := pow_rng (b := f % 9223372036854775808) (by omega) (by omega)
          have h2 := dec_len_le 16 (oddW (f % 9223372036854775808)) (by omega) (by decide)
          have h3 := itoa_len q1 q2
          rw [absT_fin (by omega) (by omega), List.length_append, List.length_cons]
          omega
    rw [List.length_append]
    split
    · rw [List.length_singleton]; omega
    · rw [List.length_nil]; omega
theorem self_eq (f : Nat) : (FloatKind.f64.format.order f f == some .eq) = !nanD f := by
  have h := self_d f
  have : (ordD f f != some .eq) = !(ordD f f == some .eq) := rfl
  rw [this] at h
  rw [← h, Bool.not_not]
set_option maxRecDepth 100000 in
set_option maxHeartbeats 3200000 in
theorem c_costtells (f : Nat) (x : List UInt8) (m : Int) (w : World) (hf : f < 18446744073709551616) (hx : x.length ≤ 1000000000000000) (hN : NumAt w) (hT : TzAt w) (hP : PowAt w) (hm : w.cell? ⟨5, 0, none⟩ = some (.int .i64 m)) :
    Calls Tryd.prog 9 #[.int .u64 (f : Int), .string (txt x)] w fun e w' => e = .returned (.bool true) ∧ Below w.heap.size w w' := by
  have HN := hide hN
  have HT := hide hT
  have HP := hide hP
  have HM := hide hm
  have HF := hide hf
  have hff := run_ffrom f
  have hzx := txt_size x
  obtain ⟨n, hn⟩ : ∃ n, x.length = n := ⟨_, rfl⟩
  rw [hn] at hzx hx
  have HL := hide hn
  clear hN hT hP hm hf hn
  by_cases h3 : 300 < n
  · have h3' : (300 : Int) < (n : Int) := by omega
    go_enter Tryd.func9, Tryd.ntmps9
    go_wp2_with fail
    refine (c_costalive w HT.out HP.out).mono ?_
    rintro e w1 ⟨rfl, b1⟩
    have HB1 := hide b1
    clear b1
    go_wp2_with fail
    go_ret
    exact ⟨rfl, HB1.out⟩
  · have h3' : ¬ (300 : Int) < (n : Int) := by omega
    have HXL : Hid (x.length ≤ 1000000) := hide (by rw [HL.out]; omega)
    clear h3
    have HPA := hide (fun w hT => c_parts f HF.out w hT)
    have HRP := hide (fun w => c_rparts f HF.out w)
    obtain ⟨pm, hpm⟩ : ∃ pm, pmW f = pm := ⟨_, rfl⟩
    obtain ⟨po, hpo⟩ : ∃ po, poW f = po := ⟨_, rfl⟩
    obtain ⟨pp, hpp⟩ : ∃ pp, ppW f = pp := ⟨_, rfl⟩
    rw [hpm, hpo, hpp] at HPA HRP
    have HCT := hide (fun w hT hP => c_text f HF.out w hT hP)
    have HCR := hide (fun w => c_rtext f HF.out w)
    obtain ⟨D, hD⟩ : ∃ D, ctext f = D := ⟨_, rfl⟩
    rw [hD] at HCT HCR
    clear hpm hpo hpp hD
    go_enter Tryd.func9, Tryd.ntmps9
    go_wp2_with fail
    refine (c_costalive w HT.out HP.out).mono ?_
    rintro e w1 ⟨rfl, b1⟩
    have HB1 := hide b1
    clear b1
    go_wp2_with fail
    refine (HPA.out w1 (tab_below HT.out HB1.out)).mono ?_
    rintro e w2 ⟨rfl, b2⟩
    have HB2 := hide (HB1.out.trans (b2.mono HB1.out.size))
    clear b2
    go_wp2_with fail
    refine (HRP.out w2).mono ?_
    rintro e w3 ⟨rfl, rfl⟩
    go_wp2_with fail
    refine (c_parse x m w3 HXL.out (HN.out.below HB2.out) (tab_below HT.out HB2.out) (tab_below HP.out HB2.out) ((HB2.out.cell (p := ⟨5, 0, none⟩) (World.block_lt_of_cell? _ _ HM.out)).trans HM.out)).mono ?_
    rintro e w4 ⟨⟨g, ok, rfl, hq1, hq2⟩, b4⟩
    have HB4 := hide (HB2.out.trans (b4.mono HB2.out.size))
    have HQ1 := hide hq1
    have HQ2 := hide hq2
    clear b4 hq1 hq2
    go_wp2_with fail
    refine (c_rparse x w4 HXL.out).mono ?_
    rintro e w5 ⟨⟨h, is, rfl, hr1, hr2⟩, b5⟩
    have HB5 := hide (HB4.out.trans (b5.mono HB4.out.size))
    obtain ⟨rfl, rfl⟩ := okN_inj (by rw [← HQ1.out, parse_eq, hr1]) HQ2.out hr2
    clear b5 hr1 hr2
    go_wp2_with fail
    refine (HCT.out w5 (tab_below HT.out HB5.out) (tab_below HP.out HB5.out)).mono ?_
    rintro e w6 ⟨rfl, b6⟩
    have HB6 := hide (HB5.out.trans (b6.mono HB5.out.size))
    clear b6
    go_wp2_with fail
    refine (HCR.out w6).mono ?_
    rintro e w7 ⟨rfl, b7⟩
    have HB7 := hide (HB6.out.trans (b7.mono HB6.out.size))
    clear b7
    go_wp2_with fail
    refine (c_same15 g w7).mono ?_
    rintro e w8 ⟨rfl, rfl⟩
    go_wp2_with fail
    go_ret
    exact ⟨rfl, HB7.out⟩
set_option maxRecDepth 100000 in
set_option maxHeartbeats 3200000 in
theorem c_costback (f : Nat) (x : List UInt8) (m : Int) (w : World) (hf : f < 18446744073709551616) (hx : x.length ≤ 1000000000000000) (hN : NumAt w) (hT : TzAt w) (hP : PowAt w) (hm : w.cell? ⟨5, 0, none⟩ = some (.int .i64 m)) :
    Calls Tryd.prog 10 #[.int .u64 (f : Int), .string (txt x)] w fun e w' => e = .returned (.bool true) ∧ Below w.heap.size w w' := by
  have HN := hide hN
  have HT := hide hT
  have HP := hide hP
  have HM := hide hm
  have HF := hide hf
  have hff := run_ffrom f
  have hzx := txt_size x
  obtain ⟨n, hn⟩ : ∃ n, x.length = n := ⟨_, rfl⟩
  rw [hn] at hzx hx
  have HL := hide hn
  clear hN hT hP hm hf hn
  by_cases h3 : 300 < n
  · have h3' : (300 : Int) < (n : Int) := by omega
    go_enter Tryd.func10, Tryd.ntmps10
    go_wp2_with fail
    refine (c_costalive w HT.out HP.out).mono ?_
    rintro e w1 ⟨rfl, b1⟩
    have HB1 := hide b1
    clear b1
    go_wp2_with fail
    go_ret
    exact ⟨rfl, HB1.out⟩
  · have h3' : ¬ (300 : Int) < (n : Int) := by omega
    have HXL : Hid (x.length ≤ 1000000) := hide (by rw [HL.out]; omega)
    clear h3
    have HCT := hide (fun w hT hP => c_text f HF.out w hT hP)
    have HDL : Hid ((ctext f).length ≤ 1000000) := hide ctext_len
    have hse := self_eq f
    have HPN : Hid (parseB (ctext f) = if nanD f = true then none else some f) := hide (by
      cases hn : nanD f with
      | true => rw [if_pos rfl, parse_nan hn]
      | false => rw [if_neg Bool.false_ne_true, parse_text HF.out hn])
    obtain ⟨nn, hnn⟩ : ∃ nn, nanD f = nn := ⟨_, rfl⟩
    rw [hnn] at HPN hse
    obtain ⟨D, hD⟩ : ∃ D, ctext f = D := ⟨_, rfl⟩
    rw [hD] at HCT HDL HPN
    clear hnn hD
    go_enter Tryd.func10, Tryd.ntmps10
    go_wp2_with fail
    refine (c_costalive w HT.out HP.out).mono ?_
    rintro e w1 ⟨rfl, b1⟩
    have HB1 := hide b1
    clear b1
    go_wp2_with fail
    refine (HCT.out w1 (tab_below HT.out HB1.out) (tab_below HP.out HB1.out)).mono ?_
    rintro e w2 ⟨rfl, b2⟩
    have HB2 := hide (HB1.out.trans (b2.mono HB1.out.size))
    clear b2
    go_wp2_with fail
    refine (c_parse D m w2 HDL.out (HN.out.below HB2.out) (tab_below HT.out HB2.out) (tab_below HP.out HB2.out) ((HB2.out.cell (p := ⟨5, 0, none⟩) (World.block_lt_of_cell? _ _ HM.out)).trans HM.out)).mono ?_
    rintro e w3 ⟨⟨g, ok, rfl, hq1, hq2⟩, b3⟩
    have HB3 := hide (HB2.out.trans (b3.mono HB2.out.size))
    rw [HPN.out] at hq1
    clear b3
    have hok : ok = !nn ∧ (ok = true → g = f) := by
      cases nn with
      | true =>
        rw [if_pos rfl] at hq1
        cases ok with
        | true => cases hq1
        | false => exact ⟨rfl, fun h => by cases h⟩
      | false =>
        rw [if_neg Bool.false_ne_true] at hq1
        cases ok with
        | true => exact ⟨rfl, fun _ => (Option.some.inj hq1).symm⟩
        | false => cases hq1
    obtain ⟨rfl, hgf⟩ := hok
    clear hq1 hq2
    have part2 : ∀ (W : World), Below w.heap.size w W → Calls Tryd.prog 43 #[.string (txt x)] W fun e w' => ParP x e ∧ Below W.heap.size W w' := fun W b => c_parse x m W HXL.out (HN.out.below b) (tab_below HT.out b) (tab_below HP.out b) ((b.cell (p := ⟨5, 0, none⟩) (World.block_lt_of_cell? _ _ HM.out)).trans HM.out)
    have HP2 := hide part2
    clear part2
    cases nn with
    | true =>
      clear hgf
      go_wp2_with fail
      refine (HP2.out w3 HB3.out).mono ?_
      rintro e w4 ⟨⟨h, is, rfl, hr1, hr2⟩, b4⟩
      have HB4 := hide (HB3.out.trans (b4.mono HB3.out.size))
      clear b4
      cases is with
      | false =>
        obtain rfl := hr2 rfl
        clear hr1 hr2
        go_wp2_with fail
        refine (c_same15 0 w4).mono ?_
        rintro e w5 ⟨rfl, rfl⟩
        go_wp2_with fail
        go_ret
        exact ⟨rfl, HB4.out⟩
      | true =>
        have hbk := parse_back (s := x) (f := h) hr1
        have hlt : h < 18446744073709551616 := by
          have h9 := hr1
          rw [parse_eq] at h9
          exact (rparse_back h9).2.1
        have HCH := hide (fun w hT hP => c_text h hlt w hT hP)
        rw [hbk] at HCH
        clear hbk hlt hr1 hr2
        go_wp2_with fail
        refine (HCH.out w4 (tab_below HT.out HB4.out) (tab_below HP.out HB4.out)).mono ?_
        rintro e w5 ⟨rfl, b5⟩
        have HB5 := hide (HB4.out.trans (b5.mono HB4.out.size))
        clear b5
        go_wp2_with fail
        go_ret
        exact ⟨rfl, HB5.out⟩
    | false =>
      obtain rfl := hgf rfl
      clear hgf
      go_wp2_with fail
      refine (c_same15 g w3).mono ?_
      rintro e w3 ⟨rfl, rfl⟩
      go_wp2_with fail
      refine (HP2.out w3 HB3.out).mono ?_
      rintro e w4 ⟨⟨h, is, rfl, hr1, hr2⟩, b4⟩
      have HB4 := hide (HB3.out.trans (b4.mono HB3.out.size))
      clear b4
      cases is with
      | false =>
        obtain rfl := hr2 rfl
        clear hr1 hr2
        go_wp2_with fail
        refine (c_same15 0 w4).mono ?_
        rintro e w5 ⟨rfl, rfl⟩
        go_wp2_with fail
        go_ret
        exact ⟨rfl, HB4.out⟩
      | true =>
        have hbk := parse_back (s := x) (f := h) hr1
        have hlt : h < 18446744073709551616 := by
          have h9 := hr1
          rw [parse_eq] at h9
          exact (rparse_back h9).2.1
        have HCH := hide (fun w hT hP => c_text h hlt w hT hP)
        rw [hbk] at HCH
        clear hbk hlt hr1 hr2
        go_wp2_with fail
        refine (HCH.out w4 (tab_below HT.out HB4.out) (tab_below HP.out HB4.out)).mono ?_
        rintro e w5 ⟨rfl, b5⟩
        have HB5 := hide (HB4.out.trans (b5.mono HB4.out.size))
        clear b5
        go_wp2_with fail
        go_ret
        exact ⟨rfl, HB5.out⟩
end Go.Proofs.YtckcadhjpjjmjaaDoor
namespace Go.Proofs.YtckcadhjpjjmjaaDoor
open Go.ChangeShapes Go.WideShapes Go.ChangeAt Go.RowKit
theorem star_err : "*" ++ "errors.errorString" = "*errors.errorString" := by decide
theorem row_err (u : TypeId) (h : Tryd.prog.typeName? 3 u = some "*errors.errorString") : u = 140 :=
  typeName_ptr_named (nm := "errors.errorString") (by rw [star_err]; kernel_rfl) (by kernel_rfl) (by decide) u (by rw [star_err]; exact h)
theorem pow_tab : (Rows.laid_internal_strconv_uint64pow10 : DataW Unit) = Lib.tabData .u64 Lib.pow10Tab := by kernel_rfl
theorem gRange : Tryd.prog.globalNamed "strconv.ErrRange" = some 3 := by kernel_rfl
theorem gSyntax : Tryd.prog.globalNamed "strconv.ErrSyntax" = some 2 := by kernel_rfl
abbrev laidN : List (String × DataW Unit) := [("math/bits.deBruijn32tab", Rows.laid_math_bits_deBruijn32tab), ("math/bits.deBruijn64tab", Rows.laid_math_bits_deBruijn64tab), ("internal/strconv.uint64pow10", Rows.laid_internal_strconv_uint64pow10), ("unicode/utf8.acceptRanges", Rows.laid_unicode_utf8_acceptRanges), ("strconv.ErrRange", Rows.laid_strconv_ErrRange), ("strconv.ErrSyntax", Rows.laid_strconv_ErrSyntax), ("unicode/utf8.first", Rows.laid_unicode_utf8_first)]
theorem numAt_of {W : World} (hL : laidMet Tryd.prog laidN W) : NumAt W := by
  have h1 := hL.tail.tail
  rw [pow_tab] at h1
  have h2 := hL.tail.tail.tail.tail
  have h3 := h2.tail
  obtain ⟨a2, s2, hv2, -, -, -⟩ := laid_sentinel h2 gRange (by kernel_rfl) Tryd.underlying67 row_err Tryd.underlying140 Tryd.underlying142 rfl rfl Tryd.underlying9 (by kernel_rfl) (by kernel_rfl)
  obtain ⟨a3, s3, hv3, -, -, -⟩ := laid_sentinel h3 gSyntax (by kernel_rfl) Tryd.underlying67 row_err Tryd.underlying140 Tryd.underlying142 rfl rfl Tryd.underlying9 (by kernel_rfl) (by kernel_rfl)
  refine ⟨Lib.tabIs_of_head (g := 4) (by kernel_rfl) (by kernel_rfl) Tryd.underlying131 Tryd.underlying30 (by kernel_rfl) (by kernel_rfl) h1, ?_, ?_⟩
  · exact ⟨_, by simpa using World.var?_cell gSyntax hv3 0, .inr ⟨_, _, rfl⟩⟩
  · exact ⟨_, by simpa using World.var?_cell gRange hv2 0, .inr ⟨_, _, rfl⟩⟩
end Go.Proofs.YtckcadhjpjjmjaaDoor
namespace Go.Proofs.YtckcadhjpjjmjaaDoor
open Go.ChangeShapes Go.WideShapes Go.ChangeAt Go.RowKit
theorem db_tab : (Rows.laid_math_bits_deBruijn64tab : DataW Unit) = Lib.tabData .u8 (Lib.deBruijn64tab.map Int.ofNat) := by kernel_rfl
abbrev laidF : List (String × DataW Unit) := [("math/bits.deBruijn32tab", Rows.laid_math_bits_deBruijn32tab), ("math/bits.deBruijn64tab", Rows.laid_math_bits_deBruijn64tab), ("internal/strconv.uint64pow10", Rows.laid_internal_strconv_uint64pow10)]
theorem tz_of {W : World} (hL : laidMet Tryd.prog laidF W) : TzAt W ∧ PowAt W := by
  have h1 := hL.tail
  rw [db_tab] at h1
  have h2 := hL.tail.tail
  rw [pow_tab] at h2
  exact ⟨Lib.tabIs_of_head (g := 1) (by kernel_rfl) (by kernel_rfl) Tryd.underlying99 Tryd.underlying5 (by kernel_rfl) (by kernel_rfl) h1, Lib.tabIs_of_head (g := 4) (by kernel_rfl) (by kernel_rfl) Tryd.underlying131 Tryd.underlying30 (by kernel_rfl) (by kernel_rfl) h2⟩
end Go.Proofs.YtckcadhjpjjmjaaDoor
namespace Go.Proofs.YtckcadhjpjjmjaaDoor
open Go.ChangeShapes Go.WideShapes Go.ChangeAt Go.RowKit
abbrev laidK : List (String × DataW Unit) := [("math/bits.deBruijn32tab", Rows.laid_math_bits_deBruijn32tab), ("math/bits.deBruijn64tab", Rows.laid_math_bits_deBruijn64tab), ("internal/strconv.uint64pow10", Rows.laid_internal_strconv_uint64pow10), ("strconv.ErrRange", Rows.laid_strconv_ErrRange), ("strconv.ErrSyntax", Rows.laid_strconv_ErrSyntax)]
theorem numK_of {W : World} (hL : laidMet Tryd.prog laidK W) : NumAt W := by
  have h1 := hL.tail.tail
  rw [pow_tab] at h1
  have h2 := hL.tail.tail.tail
  have h3 := h2.tail
  obtain ⟨a2, s2, hv2, -, -, -⟩ := laid_sentinel h2 gRange (by kernel_rfl) Tryd.underlying67 row_err Tryd.underlying140 Tryd.underlying142 rfl rfl Tryd.underlying9 (by kernel_rfl) (by kernel_rfl)
  obtain ⟨a3, s3, hv3, -, -, -⟩ := laid_sentinel h3 gSyntax (by kernel_rfl) Tryd.underlying67 row_err Tryd.underlying140 Tryd.underlying142 rfl rfl Tryd.underlying9 (by kernel_rfl) (by kernel_rfl)
  refine ⟨Lib.tabIs_of_head (g := 4) (by kernel_rfl) (by kernel_rfl) Tryd.underlying131 Tryd.underlying30 (by kernel_rfl) (by kernel_rfl) h1, ?_, ?_⟩
  · exact ⟨_, by simpa using World.var?_cell gSyntax hv3 0, .inr ⟨_, _, rfl⟩⟩
  · exact ⟨_, by simpa using World.var?_cell gRange hv2 0, .inr ⟨_, _, rfl⟩⟩
theorem tzK_of {W : World} (hL : laidMet Tryd.prog laidK W) : TzAt W ∧ PowAt W := by
  have h1 := hL.tail
  rw [db_tab] at h1
  have h2 := hL.tail.tail
  rw [pow_tab] at h2
  exact ⟨Lib.tabIs_of_head (g := 1) (by kernel_rfl) (by kernel_rfl) Tryd.underlying99 Tryd.underlying5 (by kernel_rfl) (by kernel_rfl) h1, Lib.tabIs_of_head (g := 4) (by kernel_rfl) (by kernel_rfl) Tryd.underlying131 Tryd.underlying30 (by kernel_rfl) (by kernel_rfl) h2⟩
end Go.Proofs.YtckcadhjpjjmjaaDoor
namespace Go.Proofs.YtckcadhjpjjmjaaDoor
open Go.ChangeShapes Go.WideShapes Go.ChangeAt Go.RowKit

def inReach {H : Type} (d : DataW H) (t : TypeId) : Prop := (d.weights Tryd.prog t).all (· ≤ reachBytes) = true
theorem each_part {H : Type} : ∀ {ts : List TypeId} {ds : List (DataW H)} {j : Nat} {t : TypeId} {d : DataW H}, (DataW.weightsEach Tryd.prog ts ds).all (· ≤ reachBytes) = true → ts[j]? = some t → ds[j]? = some d → inReach d t := by
  intro ts ds j t d h ht hd
  unfold inReach
  rw [List.all_eq_true] at h ⊢
  intro n hn
  exact h n (DataW.weights_mem_each ht hd n hn)
theorem all_mem {H : Type} : ∀ {e : TypeId} {ds : List (DataW H)} {d : DataW H}, (DataW.weightsAll Tryd.prog e ds).all (· ≤ reachBytes) = true → d ∈ ds → inReach d e
  | e, [], d, _, hd => by simp at hd
  | e, x :: r, d, h, hd => by
    simp only [DataW.weightsAll, List.all_append, Bool.and_eq_true] at h
    simp only [List.mem_cons] at hd
    rcases hd with rfl | hd
    · exact h.1
    · exact all_mem h.2 hd
theorem reach_str {H : Type} {s : ByteArray} {t : TypeId} (h : inReach (H := H) (.lit (.string s.data.toList)) t) : s.size ≤ 140737488355328 := by
  unfold inReach at h
  simp only [DataW.weights, List.all_cons, List.all_nil, Bool.and_true, decide_eq_true_eq] at h
  have e : s.data.toList.length = s.size := by rw [Array.length_toList]; rfl
  have := reachBytes_lt
  omega
theorem reach_struct {H : Type} {t : TypeId} {fs : Array Field} {parts : List (DataW H)} (hu : Tryd.prog.underlying t = some (.struct fs)) (h : inReach (.agg parts) t) : (DataW.weightsEach Tryd.prog (fs.toList.map (·.type)) parts).all (· ≤ reachBytes) = true := by
  unfold inReach at h
  simpa [DataW.weights, hu] using h
theorem reach_slice {H : Type} {t e : TypeId} {el sp : List (DataW H)} (hu : Tryd.prog.underlying t = some (.slice e)) (h : inReach (.slice el sp) t) : (DataW.weightsAll Tryd.prog e el).all (· ≤ reachBytes) = true := by
  unfold inReach at h
  simp only [DataW.weights, hu, List.all_cons, List.all_append, Bool.and_eq_true] at h
  exact h.2.1
variable {H : Type} {enc : TypeId × Value → H} {w : World} {spare : Nat → Bool} {held : Bool}
/-- As 'trod_row', of elements of which more is known. -/
theorem trod_row_s {α : Type} {d : Kd α} {Q : α → Prop} {t e : TypeId} {fuel : Nat} {cs : List Value} {x : DataW H × List MemPlace} (hT : Tryd.prog.underlying t = some (.slice e)) (hsz : Tryd.prog.cellsOf e = d.sz) (h0 : 0 < d.sz)
    (hel : ∀ n cs x, DataW.trod enc Tryd.prog w 0 spare held n e cs = some x → inReach x.1 e → ∃ y, d.K (· < w.heap.size) w y cs ∧ Q y) (h : DataW.trod enc Tryd.prog w 0 spare held fuel t cs = some x) (hw : inReach x.1 t) :
    ∃ A n c xs, cs = [.slice A n c] ∧ d.Row (· < w.heap.size) w A n c xs ∧ ∀ y ∈ xs, Q y := by
  rcases Go.Deep.open_slice hT h with ⟨rfl, _⟩ | ⟨a, len, cap, m, n, D, Pl, rfl, _, hl, hm, hmm, rfl, hi⟩
  · exact ⟨_, _, _, [], rfl, .nil _ _ _ _ _ (Nat.zero_le _), by simp⟩
  · have hlm : len ≤ m := by rw [hmm]; split <;> omega
    have hE := reach_slice hT hw
    rcases Nat.eq_zero_or_pos len with hz | hpos
    · subst hz
      exact ⟨_, _, _, [], rfl, .nil _ _ _ _ _ hm, by simp⟩
    have hc0 : ∀ i, i < len → ∃ y, ∃ cs', Tryd.prog.cellsOf e = cs'.length ∧ w.cells? 0 (a.add (i * Tryd.prog.cellsOf e)) (Tryd.prog.cellsOf e) = some cs' ∧ d.K (· < w.heap.size) w y cs' ∧ Q y := fun i hil => by
      obtain ⟨cs', hcs, htr⟩ := hi i (by omega)
      obtain ⟨y, hy, hq⟩ := hel _ _ _ htr (all_mem hE (List.mem_map.2 ⟨i, by simpa using hil, rfl⟩))
      obtain ⟨_, hcl, _⟩ := World.cells?_some hcs
      exact ⟨y, cs', hcl.symm, hcs, hy, hq⟩
    have hsp : a.spot = none ∧ a.block < w.heap.size := by
      obtain ⟨y, cs', hcl0, hcs, hy, _⟩ := hc0 0 hpos
      obtain ⟨_, hcl, hat⟩ := World.cells?_some hcs
      have hp : 0 < cs'.length := by rw [hcl, hsz]; exact h0
      have hg : w.cell? a = some (cs'[0]'(by omega)) := by
        have := (hat 0 (by omega)).trans (List.getElem?_eq_getElem (by omega))
        simpa [Addr.add] using this
      exact ⟨World.cell?_spot hg, World.block_lt_of_cell? w _ hg⟩
    obtain ⟨b, o, sp⟩ := a
    obtain ⟨rfl, hlt⟩ := hsp
    have hc : ∀ i, i < len → ∃ y, ∃ cs, (d.K (· < w.heap.size) w y cs ∧ w.rangeAt b (o + i * d.sz) cs) ∧ Q y := fun i hil => by
      obtain ⟨y, cs', _, hcs, hy, hq⟩ := hc0 i hil
      obtain ⟨_, hcl, hat⟩ := World.cells?_some hcs
      rw [hsz] at hcl hat
      refine ⟨y, cs', ⟨hy, fun j v hv => ?_⟩, hq⟩
      have := hat j (by rw [← hcl]; exact (List.getElem?_eq_some_iff.1 hv).1)
      rw [hv, Addr.add_none, Addr.add_none] at this
      exact this
    obtain ⟨xs, hxl, hx⟩ := list_of len hc
    exact ⟨_, _, _, xs, rfl, ⟨hxl, hl, hm, fun hn => ⟨b, o, rfl, hlt, hlt, fun i x hix => let ⟨cs, hq, _⟩ := hx i x hix; ⟨cs, hq⟩⟩⟩, fun y hy => by
      obtain ⟨i, hi', rfl⟩ := List.mem_iff_getElem.1 hy
      obtain ⟨cs, _, hq⟩ := hx i _ (List.getElem?_eq_getElem hi')
      exact hq⟩
theorem str_open_s (n : Nat) (cs : List Value) (x : DataW H × List MemPlace) (h : DataW.trod enc Tryd.prog w 0 spare held n 9 cs = some x) (hw : inReach x.1 9) :
    ∃ y : ByteArray, kStr.K (· < w.heap.size) w y cs ∧ y.size ≤ 140737488355328 := by
  obtain ⟨s, rfl, e, hm⟩ := DataW.trod_string Tryd.underlying9 h
  rw [e] at hw
  exact ⟨s, ⟨rfl, hm⟩, reach_str hw⟩
end Go.Proofs.YtckcadhjpjjmjaaDoor
namespace Go.Proofs.YtckcadhjpjjmjaaDoor
open Go.ChangeShapes Go.WideShapes Go.ChangeAt Go.RowKit

abbrev costBackLaid : List (String × DataW Unit) := [("math/bits.deBruijn32tab", Rows.laid_math_bits_deBruijn32tab), ("math/bits.deBruijn64tab", Rows.laid_math_bits_deBruijn64tab), ("internal/strconv.uint64pow10", Rows.laid_internal_strconv_uint64pow10), ("strconv.ErrRange", Rows.laid_strconv_ErrRange), ("strconv.ErrSyntax", Rows.laid_strconv_ErrSyntax)]
set_option maxRecDepth 100000 in
set_option maxHeartbeats 2000000 in
theorem costBack_lifted (os : Os) (started : os.Started) (H : Type) (enc : TypeId × Value → H) :
    ReturnsInHanded {} Tryd.checked os 10 .any (fun w args => (Rows.costBackSpec.pre enc Tryd.prog Tryd.f10 [] false w args ∧ laidMetH Tryd.prog costBackLaid w) ∧ sizedMet enc Tryd.prog Tryd.f10 (OpenSpec.ofChange Rows.costBackSpec) false w args)
      (Rows.costBackSpec.post enc Tryd.prog Tryd.f10 false true false false) := by
  refine handed_both (C := Tryd.checked) (X := fun w _ => laidMetH Tryd.prog costBackLaid w) (fun _ _ _ hh h => h.of_heap hh) ownKnobD started (by kernel_rfl) Tryd.func10
    (ChangeSpec.witness_shaped (enc := enc) (C := Tryd.checked) (os := os) (X := fun w _ => laidMetH Tryd.prog costBackLaid w) false (World.laidAll Tryd.prog os costBackLaid) #[.int .u64 0, .string ByteArray.empty] 8 (World.laidAll_os _ _ _)
      (World.shaped_of_ZipB (by kernel_rfl) (by kernel_rfl)) (by kernel_rfl) (by kernel_rfl) (by kernel_rfl)
      (by rw [MakeChecks.laidMetH_plain _ _ _ (by kernel_rfl)]; exact laidMet_laidAll _ (by kernel_rfl) (by kernel_rfl))) ?_
  intro W base args ds gs before hval0 hW hwt hL hsh
  have hval : ∀ (j : Nat) t v, Tryd.f10.params[j]? = some t → args[j]? = some v → Value.okWide Tryd.prog W .any base t v := hval0
  have hW' := hW
  obtain ⟨p, q, hA0, hV, rfl, hfz, hnd⟩ := hW
  have hA : DataW.TrodAll enc Tryd.prog W 0 (fun _ => true) true Tryd.f10.params.toList args.toList ds p := hA0
  have hw2 : (DataW.weightsEach Tryd.prog (Tryd.f10.params.toList ++ Rows.costBackSpec.plain.varTypes Tryd.prog) (ds ++ gs)).all (· ≤ reachBytes) = true := hwt
  rw [Tryd.params10] at hA hval hw2
  obtain ⟨v0, v1, d0, d1, p0, p1, rfl, rfl, rfl, ⟨n0, h0⟩, ⟨n1, h1⟩⟩ := trodAll_two hA
  obtain ⟨rfl, rfl⟩ := trodVars_none hV
  have g0 := each_part (j := 0) (t := 30) (d := d0) hw2 rfl rfl
  have g1 := each_part (j := 1) (t := 9) (d := d1) hw2 rfl rfl
  obtain ⟨z0, rfl, rfl, rfl, wz0⟩ := open_int Tryd.underlying30 (hval 0 30 v0 rfl rfl) ⟨n0, h0⟩
  simp [Lit.wf, IntKind.min, IntKind.max, IntKind.signed, IntKind.bits] at wz0
  obtain ⟨f, rfl⟩ : ∃ n : Nat, z0 = n := ⟨z0.toNat, by omega⟩
  obtain ⟨s1, rfl⟩ := okWide_string Tryd.underlying9 (hval 1 9 v1 rfl rfl)
  obtain ⟨use1, ⟨e1, -⟩, hu1⟩ := str_open_s _ _ _ h1 g1
  obtain rfl : s1 = use1 := by simpa [Value.cells] using e1
  obtain ⟨s, rfl⟩ : ∃ l, s1 = txt l := ⟨byt s1, (txt_byt s1).symm⟩
  obtain ⟨m, hm⟩ := maxlen_of hsh
  rw [MakeChecks.laidMetH_plain _ _ _ (by kernel_rfl)] at hL
  have hN := numK_of hL
  obtain ⟨hT, hP⟩ := tzK_of hL
  clear hA0 hval0 h1
  refine (c_costback f s m W (by omega) (by have := hu1; rw [txt_size] at this; omega) hN hT hP hm).mono fun e W' ⟨he, hg⟩ => ?_
  subst he
  exact ⟨_, rfl, post_true laidOutD (by kernel_rfl) (by kernel_rfl) Tryd.underlying4 rfl hW' rfl hg⟩

theorem costBack_row : Rows.CostBackSaid :=
  OpenClaim.holds_of_wide 10 Tryd.f10 rfl rfl rfl rfl rfl rfl rfl ⟨rfl, rfl, rfl, rfl, rfl⟩ rfl rfl rfl rfl rfl (by kernel_rfl) Tryd.func10 (by kernel_rfl)
    (of_decide_eq_true (by kernel_rfl)) (by unfold Func.isWrapper; first | (rw [if_pos (by decide +kernel)]; kernel_rfl) | (rw [if_neg (by decide +kernel)]; exact ⟨rfl, rfl⟩))
    (fun os started H enc _ => costBack_lifted os started H enc)
theorem costBack_proved : Rows.CostBackCardSaid :=
  Claim7.holds_tied_plain_at .later [] [.data, .data, .data, .sentinel, .sentinel] true (true, "2ec3429c51431b7b409ee26f38c36534d9ca1e5e5c841bce7aa769e90a65a99b") true
    costBack_row (fun _ h => by cases h) (by kernel_rfl) (fun _ h => by cases h) costBack_row_tie rfl ⟨rfl, rfl⟩ (by kernel_rfl) rfl
    (fun f fn hf hfn => by
      obtain rfl : f = 10 := Option.some.inj ((show Tryd.prog.funcNamed "chitty/chittylaw15.CostBack" = some 10 by kernel_rfl).symm.trans hf) |>.symm
      obtain rfl : fn = Tryd.f10 := (Option.some.inj (Tryd.func10.symm.trans hfn)).symm
      exact ⟨by kernel_rfl, fun j t ht => by
        rw [Tryd.params10] at ht
        have hm : t ∈ [30, 9] := by simpa using Array.mem_of_getElem? ht
        have hall : ([30, 9].all fun u => !Tryd.prog.wantsStandIn u) = true := by kernel_rfl
        exact (show Tryd.prog.wantsStandIn t = false by simpa using List.all_eq_true.1 hall t hm)⟩)
    (by kernel_rfl)
end Go.Proofs.YtckcadhjpjjmjaaDoor
