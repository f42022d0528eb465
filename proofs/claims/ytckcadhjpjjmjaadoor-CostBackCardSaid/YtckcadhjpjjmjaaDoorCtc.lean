/- Texts of one proof, one behind the other: Fl4, Fl5, Fl6, Fl7, Fl8, Fl9, Fla, Fc2. No condition. -/
import Derived.Test.YtckcadhjpjjmjaaDoorCtb
import Derived.Test.YtckcadhjpjjmjaaDoorCta
namespace Go.Proofs.YtckcadhjpjjmjaaDoor
open Go.RowKit Go.Sort
def pmW (f : Nat) : Bool := !nanD f && decide (9223372036854775808 ≤ f)
def plainW (f : Nat) : Bool := !nanD f && !decide (f % 9223372036854775808 = 0) && !decide (f % 9223372036854775808 = 9218868437227405312)
def poW (f : Nat) : Nat := if plainW f = true then oddW (f % 9223372036854775808) else 0
def ppW (f : Nat) : Int := if plainW f = true then powW (f % 9223372036854775808) else 0
theorem fr_fact {b : Nat} (h0 : 0 < b) (_hb : b < 9218868437227405312) : 4503599627370496 ≤ frW b ∧ frW b < 9218868437227405312 ∧ ldW (frW b) 53 = 1074 * 4503599627370496 + nrmW b := by
  obtain ⟨n1, n2⟩ := nrm_rng h0
  have e0 : frW b = nrmW b - 4503599627370496 + 1022 * 4503599627370496 := rfl
  have e1 : frW b / 4503599627370496 = 1022 := by rw [e0]; omega
  have e2 : frW b % 4503599627370496 = nrmW b - 4503599627370496 := by rw [e0]; omega
  refine ⟨by omega, by omega, ?_⟩
  have hE : ldE (frW b) 53 = 52 := by rw [ldE, e1]; decide +kernel
  unfold ldW
  rw [hE, e2, if_neg (by decide), if_neg (by decide), if_neg (by decide)]
  have e3 : nrmW b - 4503599627370496 + ((52 : Int) + 1023).toNat * 4503599627370496 = 1074 * 4503599627370496 + nrmW b := by
    have : ((52 : Int) + 1023).toNat = 1075 := by decide
    rw [this]; omega
  rw [e3, mulR, mul_one (by omega) (by omega)]; rfl
theorem nrm_tz {b : Nat} (h0 : 0 < b) : Lib.ctz 64 (nrmW b) = tzW (sigW b) + (52 - (sigW b).log2) ∧ nrmW b / 2 ^ Lib.ctz 64 (nrmW b) = oddW b := by
  obtain ⟨h1, h2, h3⟩ := odd_spec h0
  obtain ⟨n1, n2⟩ := nrm_rng h0
  have e : nrmW b = oddW b * 2 ^ (tzW (sigW b) + (52 - (sigW b).log2)) := by
    rw [nrmW, Nat.pow_add, ← Nat.mul_assoc, ← h1]
  have ht : Lib.ctz 64 (nrmW b) = tzW (sigW b) + (52 - (sigW b).log2) := by
    rw [e]; exact tz_of_odd h2 (by rw [← e]; omega)
  refine ⟨ht, ?_⟩
  rw [ht]
  conv => lhs; arg 1; rw [e]
  exact Nat.mul_div_cancel _ (Nat.two_pow_pos _)
set_option maxRecDepth 100000 in
set_option maxHeartbeats 1600000 in
theorem c_parts (f : Nat) (hf : f < 18446744073709551616) (w : World) (hT : TzAt w) : Calls Tryd.prog 41 #[.float .f64 f] w fun e w' => e = .returned (.tuple #[.bool (pmW f), .int .u64 (poW f : Nat), .int .i64 (ppW f)]) ∧ Below w.heap.size w w' := by
  have HT := hide hT
  have HF := hide hf
  clear hT
  cases hn : nanD f with
  | true =>
    have e1 : pmW f = false := by rw [pmW, hn]; rfl
    have e2 : plainW f = false := by rw [plainW, hn]; rfl
    have e3 : poW f = 0 := by rw [poW, if_neg (by rw [e2]; decide)]
    have e4 : ppW f = 0 := by rw [ppW, if_neg (by rw [e2]; decide)]
    rw [e1, e3, e4]
    clear e1 e2 e3 e4 hf
    go_enter Tryd.func41, Tryd.ntmps41
    go_wp2_with fail
    refine (c_isnan f _).mono ?_
    rintro e w1 ⟨rfl, rfl⟩
    rw [hn]
    go_wp2_with fail
    exact bodyPost_ret (v := .tuple #[.bool false, .int .u64 0, .int .i64 0]) (by simp [results, Tryd.results41, go_sem]) rfl ⟨rfl, Below.refl _ _⟩
  | false =>
    have hb : f % 9223372036854775808 ≤ 9218868437227405312 := by
      rw [nan_iff] at hn
      have := of_decide_eq_false hn
      omega
    have hz := ord_zero hf
    have e1 : pmW f = decide (9223372036854775808 ≤ f) := by rw [pmW, hn]; rfl
    obtain ⟨m, hm⟩ : ∃ m, decide (9223372036854775808 ≤ f) = m := ⟨_, rfl⟩
    have hS := c_signb f hf
    rw [hm] at hS e1
    have HS := hide hS
    obtain ⟨b, hbb⟩ : ∃ b, f % 9223372036854775808 = b := ⟨_, rfl⟩
    have HI := hide (c_isinf f b hf hbb)
    have HA := hide (c_abs f b hf hbb)
    rw [hbb] at hb hz
    have hi := inf_told hb
    rw [e1]
    have HN := hide (c_isnan f)
    by_cases h0 : b = 0
    · have e2 : plainW f = false := by rw [plainW, hbb, h0, decide_eq_true rfl]; simp
      have e3 : poW f = 0 := by rw [poW, if_neg (by rw [e2]; decide)]
      have e4 : ppW f = 0 := by rw [ppW, if_neg (by rw [e2]; decide)]
      rw [e3, e4]
      rw [decide_eq_true h0] at hz
      clear e1 e2 e3 e4 hf hbb hb hi h0 hm hS HI HA
      go_enter Tryd.func41, Tryd.ntmps41
      go_wp2_with fail
      refine (HN.out _).mono ?_
      rintro e w1 ⟨rfl, rfl⟩
      rw [hn]
      go_wp2_with fail
      refine (HS.out _).mono ?_
      rintro e w1 ⟨rfl, rfl⟩
      go_wp2_with fail
      exact bodyPost_ret (v := .tuple #[.bool m, .int .u64 0, .int .i64 0]) (by simp [results, Tryd.results41, go_sem]) rfl ⟨rfl, Below.refl _ _⟩
    · rw [decide_eq_false h0] at hz
      by_cases hI : b = 9218868437227405312
      · have e2 : plainW f = false := by rw [plainW, hbb, hI, decide_eq_true rfl]; simp
        have e3 : poW f = 0 := by rw [poW, if_neg (by rw [e2]; decide)]
        have e4 : ppW f = 0 := by rw [ppW, if_neg (by rw [e2]; decide)]
        rw [e3, e4]
        rw [decide_eq_true hI] at hi
        clear e1 e2 e3 e4 hf hbb hb h0 hm hS HA hI
        go_enter Tryd.func41, Tryd.ntmps41
        go_wp2_with fail
        refine (HN.out _).mono ?_
        rintro e w1 ⟨rfl, rfl⟩
        rw [hn]
        go_wp2_with fail
        refine (HS.out _).mono ?_
        rintro e w1 ⟨rfl, rfl⟩
        go_wp2_with fail
        refine (HI.out _).mono ?_
        rintro e w1 ⟨rfl, rfl⟩
        rw [hi]
        go_wp2_with fail
        exact bodyPost_ret (v := .tuple #[.bool m, .int .u64 0, .int .i64 0]) (by simp [results, Tryd.results41, go_sem]) rfl ⟨rfl, Below.refl _ _⟩
      · have e2 : plainW f = true := by rw [plainW, hn, hbb, decide_eq_false h0, decide_eq_false hI]; rfl
        have e3 : poW f = oddW b := by rw [poW, if_pos e2, hbb]
        have e4 : ppW f = powW b := by rw [ppW, if_pos e2, hbb]
        rw [e3, e4]
        rw [decide_eq_false hI] at hi
        have hb0 : 0 < b := by omega
        have hbI : b < 9218868437227405312 := by omega
        obtain ⟨f1, f2, f3⟩ := fr_fact hb0 hbI
        have HX := hide (c_Frexp b hb0 hbI)
        have HL := hide (c_Ldexp (frW b) 53 f1 f2 (by decide) (by decide))
        rw [f3] at HL
        obtain ⟨n1, n2⟩ := nrm_rng hb0
        obtain ⟨t1, t2⟩ := nrm_tz hb0
        have hcv : ∀ W : World, (convert 31 30 (.float .f64 (1074 * 4503599627370496 + nrmW b))).run Tryd.prog W = .ok (.int .u64 (nrmW b : Nat)) W := fun W => by
          have e := float_int (b := 1074 * 4503599627370496 + nrmW b) (by omega) (by omega)
          rw [(sig_put n1 n2).1] at e
          refine run_convert_float_int W _ _ .f64 .u64 _ _ (by kernel_rfl) Tryd.underlying30 ?_
          unfold floatToIntVal
          rw [e]
          have h1 : IntKind.u64.min = 0 := by decide
          have h2 : IntKind.u64.max = 18446744073709551615 := by decide
          exact if_pos ⟨by omega, by omega⟩
        have hp1 := pow_rng hb0 hbI
        have hfx : fxW b = powW b - (tzW (sigW b) : Nat) + 1 + (sigW b).log2 := by unfold fxW powW; omega
        obtain ⟨hl, hs⟩ := log_odd hb0
        have HTZ := hide (c_tz (nrmW b) (by omega) (by omega))
        have ht64 : Lib.ctz 64 (nrmW b) < 64 := by omega
        obtain ⟨x, hx⟩ : ∃ x, frW b = x := ⟨_, rfl⟩
        obtain ⟨N, hN⟩ : ∃ N, nrmW b = N := ⟨_, rfl⟩
        obtain ⟨t, ht⟩ : ∃ t, Lib.ctz 64 N = t := ⟨_, rfl⟩
        obtain ⟨p, hp⟩ : ∃ p, fxW b = p := ⟨_, rfl⟩
        obtain ⟨o, ho⟩ : ∃ o, oddW b = o := ⟨_, rfl⟩
        obtain ⟨z, hzz⟩ : ∃ z, 1074 * 4503599627370496 + N = z := ⟨_, rfl⟩
        obtain ⟨q, hq⟩ : ∃ q, powW b = q := ⟨_, rfl⟩
        rw [hN, hzz] at hcv
        rw [hx, hp] at HX
        rw [hx, hN, hzz] at HL
        rw [hN] at HTZ
        rw [hN] at t1 t2 ht64
        rw [ht] at HTZ t1 t2 ht64
        rw [ho] at t2
        rw [ho, hq]
        have hwp : wrap64 (p - 52) = p - 52 := IntWalk.wrap64_in _ (by omega)
        have hwp2 : wrap64 (p - 52 - 1) = p - 53 := by rw [IntWalk.wrap64_in _ (by omega)]; omega
        have hwp3 : wrap64 (p - 53 + (t : Int)) = q := by rw [IntWalk.wrap64_in _ (by omega)]; omega
        have hdv : (N : Int) / 2 ^ t = (o : Int) := by rw [← t2]; simp
        have HT64 : (t : Int) ≤ 64 := by omega
        clear e1 e2 e3 e4 hf hbb hb h0 hm hS hI hb0 hbI f1 f2 f3 n1 n2 t1 t2 hp1 hfx hl hs ht64 hx hN ht hp ho hzz hq
        go_enter Tryd.func41, Tryd.ntmps41
        go_wp2_with fail
        refine (HN.out _).mono ?_
        rintro e w1 ⟨rfl, rfl⟩
        rw [hn]
        go_wp2_with fail
        refine (HS.out _).mono ?_
        rintro e w1 ⟨rfl, rfl⟩
        go_wp2_with fail
        refine (HI.out _).mono ?_
        rintro e w1 ⟨rfl, rfl⟩
        rw [hi]
        go_wp2_with fail
        refine (HA.out _).mono ?_
        rintro e w1 ⟨rfl, rfl⟩
        go_wp2_with fail
        refine (HX.out _).mono ?_
        rintro e w1 ⟨rfl, rfl⟩
        go_wp2_with fail
        refine (HL.out _).mono ?_
        rintro e w1 ⟨rfl, rfl⟩
        go_wp2_with fail
        refine (HTZ.out _ HT.out).mono ?_
        rintro e w1 ⟨rfl, rfl⟩
        go_wp2_with fail
        go_quiet (fail)
        go_wp2_with fail
        exact bodyPost_ret (v := .tuple #[.bool m, .int .u64 (o : Nat), .int .i64 (wrap64 (p - 53 + (t : Int)))]) (by simp [results, Tryd.results41, go_sem]) rfl ⟨by rw [hwp3], below_drewN _ _⟩
theorem itoa_len {q : Int} (h1 : -1074 ≤ q) (h2 : q ≤ 1023) : (Lib.itoa q).length ≤ 5 := by
  unfold Lib.itoa
  split
  · have := dec_len_le 4 q.natAbs (by omega) (by decide)
    rw [List.length_cons]; omega
  · have := dec_len_le 4 q.toNat (by omega) (by decide)
    omega
set_option maxRecDepth 100000 in
set_option maxHeartbeats 3200000 in
theorem c_text (f : Nat) (hf : f < 18446744073709551616) (w : World) (hT : TzAt w) (hp : PowAt w) : Calls Tryd.prog 45 #[.float .f64 f] w fun e w' => e = .returned (.string (txt (ctext f))) ∧ Below w.heap.size w w' := by
  have HT := hide hT
  have HP := hide hp
  clear hT hp
  have HN := hide (c_isnan f)
  cases hn : nanD f with
  | true =>
    have he : ctext f = [] := by rw [ctext, if_pos hn]
    rw [he]
    clear he
    go_enter Tryd.func45, Tryd.ntmps45
    go_wp2_with fail
    refine (HN.out _).mono ?_
    rintro e w1 ⟨rfl, rfl⟩
    rw [hn]
    go_wp2_with fail
    go_ret
    exact ⟨rfl, Below.refl _ _⟩
  | false =>
    have hb : f % 9223372036854775808 ≤ 9218868437227405312 := by
      rw [nan_iff] at hn
      have := of_decide_eq_false hn
      omega
    have hz := ord_zero hf
    obtain ⟨m, hm⟩ : ∃ m, decide (9223372036854775808 ≤ f) = m := ⟨_, rfl⟩
    have e1 : pmW f = m := by rw [pmW, hn, hm]; rfl
    obtain ⟨b, hbb⟩ : ∃ b, f % 9223372036854775808 = b := ⟨_, rfl⟩
    have HI := hide (c_isinf f b hf hbb)
    have HPT := hide (fun w => c_parts f hf w)
    rw [hbb] at hb hz
    have hi := inf_told hb
    have hct : ctext f = (if m = true then [45] else []) ++ absT b := by
      rw [ctext, if_neg (by rw [hn]; decide), hbb]
      cases m with
      | true => rw [if_pos (of_decide_eq_true hm)]; rfl
      | false => rw [if_neg (of_decide_eq_false hm)]; rfl
    rw [e1] at HPT
    by_cases hI : b = 9218868437227405312
    · rw [decide_eq_true hI] at hi
      have ha : absT b = [105, 110, 102] := by rw [absT, if_pos hI]
      rw [ha] at hct
      rw [hct]
      clear hf hbb hb hI e1 ha hct hz hm
      cases m with
      | true =>
        have HE : Hid ((⟨#[45]⟩ : ByteArray) ++ ⟨#[105, 110, 102]⟩ = txt ([45] ++ [105, 110, 102])) := hide (by decide +kernel)
        go_enter Tryd.func45, Tryd.ntmps45
        go_wp2_with fail
        refine (HN.out _).mono ?_
        rintro e w1 ⟨rfl, rfl⟩
        rw [hn]
        go_wp2_with fail
        refine (HPT.out _ HT.out).mono ?_
        rintro e w1 ⟨rfl, b1⟩
        have B1 := hide b1
        clear b1
        go_wp2_with fail
        refine (HI.out _).mono ?_
        rintro e w2 ⟨rfl, rfl⟩
        rw [hi]
        go_wp2_with fail
        go_ret
        exact ⟨congrArg (fun s => Ending.returned (Value.string s)) HE.out, B1.out⟩
      | false =>
        have HE : Hid ((⟨#[]⟩ : ByteArray) ++ ⟨#[105, 110, 102]⟩ = txt ([] ++ [105, 110, 102])) := hide (by decide +kernel)
        go_enter Tryd.func45, Tryd.ntmps45
        go_wp2_with fail
        refine (HN.out _).mono ?_
        rintro e w1 ⟨rfl, rfl⟩
        rw [hn]
        go_wp2_with fail
        refine (HPT.out _ HT.out).mono ?_
        rintro e w1 ⟨rfl, b1⟩
        have B1 := hide b1
        clear b1
        go_wp2_with fail
        refine (HI.out _).mono ?_
        rintro e w2 ⟨rfl, rfl⟩
        rw [hi]
        go_wp2_with fail
        go_ret
        exact ⟨congrArg (fun s => Ending.returned (Value.string s)) HE.out, B1.out⟩
    · rw [decide_eq_false hI] at hi
      by_cases h0 : b = 0
      · rw [decide_eq_true h0] at hz
        have ha : absT b = [48] := by rw [absT, if_neg hI, if_pos h0]
        rw [ha] at hct
        rw [hct]
        clear hf hbb hb hI e1 ha hct h0 hm
        cases m with
        | true =>
          have HE : Hid ((⟨#[45]⟩ : ByteArray) ++ ⟨#[48]⟩ = txt ([45] ++ [48])) := hide (by decide +kernel)
          go_enter Tryd.func45, Tryd.ntmps45
          go_wp2_with fail
          refine (HN.out _).mono ?_
          rintro e w1 ⟨rfl, rfl⟩
          rw [hn]
          go_wp2_with fail
          refine (HPT.out _ HT.out).mono ?_
          rintro e w1 ⟨rfl, b1⟩
          have B1 := hide b1
          clear b1
          go_wp2_with fail
          refine (HI.out _).mono ?_
          rintro e w2 ⟨rfl, rfl⟩
          rw [hi]
          go_wp2_with fail
          go_ret
          exact ⟨congrArg (fun s => Ending.returned (Value.string s)) HE.out, B1.out⟩
        | false =>
          have HE : Hid ((⟨#[]⟩ : ByteArray) ++ ⟨#[48]⟩ = txt ([] ++ [48])) := hide (by decide +kernel)
          go_enter Tryd.func45, Tryd.ntmps45
          go_wp2_with fail
          refine (HN.out _).mono ?_
          rintro e w1 ⟨rfl, rfl⟩
          rw [hn]
          go_wp2_with fail
          refine (HPT.out _ HT.out).mono ?_
          rintro e w1 ⟨rfl, b1⟩
          have B1 := hide b1
          clear b1
          go_wp2_with fail
          refine (HI.out _).mono ?_
          rintro e w2 ⟨rfl, rfl⟩
          rw [hi]
          go_wp2_with fail
          go_ret
          exact ⟨congrArg (fun s => Ending.returned (Value.string s)) HE.out, B1.out⟩
      · rw [decide_eq_false h0] at hz
        have hb0 : 0 < b := by omega
        have hbI : b < 9218868437227405312 := by omega
        have ha := absT_fin hb0 hbI
        have e2 : plainW f = true := by rw [plainW, hn, hbb, decide_eq_false h0, decide_eq_false hI]; rfl
        have e3 : poW f = oddW b := by rw [poW, if_pos e2, hbb]
        have e4 : ppW f = powW b := by rw [ppW, if_pos e2, hbb]
        rw [e3, e4] at HPT
        obtain ⟨o1, o2⟩ := odd_lt hb0
        obtain ⟨q1, q2⟩ := pow_rng hb0 hbI
        obtain ⟨o, ho⟩ : ∃ o, oddW b = o := ⟨_, rfl⟩
        obtain ⟨q, hq⟩ : ∃ q, powW b = q := ⟨_, rfl⟩
        rw [ho, hq] at HPT ha
        rw [ho] at o1
        rw [hq] at q1 q2
        have HO64 : Hid (o < 18446744073709551616) := hide (by omega)
        have HQ1 : Hid (-9223372036854775808 ≤ q) := hide (by omega)
        have HQ2 : Hid (q ≤ 9223372036854775807) := hide (by omega)
        have hdl := dec_len_le 16 o (by omega) (by decide)
        have hil := itoa_len q1 q2
        obtain ⟨D, hD⟩ : ∃ D, Lib.decDigits o = D := ⟨_, rfl⟩
        obtain ⟨I, hIq⟩ : ∃ I, Lib.itoa q = I := ⟨_, rfl⟩
        have HD : Hid (txt (Lib.decDigits o) = txt D) := hide (by rw [hD])
        have HIT : Hid ((⟨(Lib.itoa q).toArray⟩ : ByteArray) = txt I) := hide (by rw [hIq])
        rw [hD] at hdl
        rw [hIq] at hil
        rw [ha, hD, hIq] at hct
        rw [hct]
        have hsD := txt_size D
        have hsI := txt_size I
        clear hf hbb hb hI e1 ha hct h0 hb0 hbI e2 e3 e4 o1 o2 q1 q2 ho hq hD hIq hm
        cases m with
        | true =>
          have HE : Hid ((((⟨#[45]⟩ : ByteArray) ++ txt D) ++ ⟨#[112]⟩) ++ txt I = txt ((if true = true then [45] else []) ++ (D ++ 112 :: I))) := hide (by
            rw [show (⟨#[45]⟩ : ByteArray) = txt [45] from rfl, show (⟨#[112]⟩ : ByteArray) = txt [112] from rfl, txt_app2, txt_app2, txt_app2]; simp)
          go_enter Tryd.func45, Tryd.ntmps45
          go_wp2_with fail
          refine (HN.out _).mono ?_
          rintro e w1 ⟨rfl, rfl⟩
          rw [hn]
          go_wp2_with fail
          refine (HPT.out _ HT.out).mono ?_
          rintro e w1 ⟨rfl, b1⟩
          have B1 := hide b1
          clear b1
          go_wp2_with fail
          refine (HI.out _).mono ?_
          rintro e w2 ⟨rfl, rfl⟩
          rw [hi]
          go_wp2_with fail
          refine (c_fmtuint o _ HO64.out (tab_below HP.out B1.out)).mono ?_
          rintro e w3 ⟨rfl, b3⟩
          have B3 := hide (B1.out.trans (b3.mono B1.out.size))
          clear b3
          rw [HD.out]
          go_wp2_with fail
          refine (Tryd.strconv_Itoa q HQ1.out HQ2.out _ (tab_below HP.out B3.out)).mono ?_
          rintro e w4 ⟨rfl, k, os, rfl⟩
          have B4 := hide (B3.out.trans ((below_grow w3 k os).mono B3.out.size))
          rw [HIT.out]
          go_wp2_with fail
          go_ret
          exact ⟨congrArg (fun s => Ending.returned (Value.string s)) HE.out, B4.out⟩
        | false =>
          have HE : Hid ((((⟨#[]⟩ : ByteArray) ++ txt D) ++ ⟨#[112]⟩) ++ txt I = txt ((if false = true then [45] else []) ++ (D ++ 112 :: I))) := hide (by
            rw [show (⟨#[]⟩ : ByteArray) = txt [] from rfl, show (⟨#[112]⟩ : ByteArray) = txt [112] from rfl, txt_app2, txt_app2, txt_app2]; simp)
          go_enter Tryd.func45, Tryd.ntmps45
          go_wp2_with fail
          refine (HN.out _).mono ?_
          rintro e w1 ⟨rfl, rfl⟩
          rw [hn]
          go_wp2_with fail
          refine (HPT.out _ HT.out).mono ?_
          rintro e w1 ⟨rfl, b1⟩
          have B1 := hide b1
          clear b1
          go_wp2_with fail
          refine (HI.out _).mono ?_
          rintro e w2 ⟨rfl, rfl⟩
          rw [hi]
          go_wp2_with fail
          refine (c_fmtuint o _ HO64.out (tab_below HP.out B1.out)).mono ?_
          rintro e w3 ⟨rfl, b3⟩
          have B3 := hide (B1.out.trans (b3.mono B1.out.size))
          clear b3
          rw [HD.out]
          go_wp2_with fail
          refine (Tryd.strconv_Itoa q HQ1.out HQ2.out _ (tab_below HP.out B3.out)).mono ?_
          rintro e w4 ⟨rfl, k, os, rfl⟩
          have B4 := hide (B3.out.trans ((below_grow w3 k os).mono B3.out.size))
          rw [HIT.out]
          go_wp2_with fail
          go_ret
          exact ⟨congrArg (fun s => Ending.returned (Value.string s)) HE.out, B4.out⟩
end Go.Proofs.YtckcadhjpjjmjaaDoor
namespace Go.Proofs.YtckcadhjpjjmjaaDoor
open Go.RowKit
set_option maxRecDepth 100000 in
set_option maxHeartbeats 1600000 in
theorem c_num : ∀ (u : Nat) (w : World), u < 18446744073709551616 → Calls Tryd.prog 78 #[.int .u64 (u : Int)] w fun e w' => e = .returned (.string (txt (Lib.decDigits u))) ∧ Below w.heap.size w w' := by
  intro u
  induction u using Nat.strongRecOn with
  | _ u ih =>
    intro w hu
    by_cases h : u < 10
    · have h' : (u : Int) < 10 := by omega
      have HE : Hid (Lib.decDigits u = [UInt8.ofNat (48 + u)]) := hide (dec_lt h)
      obtain ⟨y, hy⟩ : ∃ y, y = UInt8.ofNat (48 + u) := ⟨_, rfl⟩
      have hyn : y.toNat = 48 + u := by rw [hy, digit_of h]
      have e8 : Value.int .u8 (48 + (u : Int)) = bv y := by show _ = Value.int .u8 (y.toNat : Int); rw [hyn]; rfl
      have hq := row_string (P := Tryd.prog) Tryd.underlying71 Tryd.underlying5 Tryd.underlying9 (one_row8 (E := 5) (heap_alloc_new w (.cells #[bv y] 5)))
      rw [← e8] at hq
      rw [← hy] at HE
      clear hy hyn
      clear ih e8
      go_enter Tryd.func78, Tryd.ntmps78
      go_wp2_with fail
      go_ret
      exact ⟨by rw [HE.out]; rfl, (Below.refl _ _).alloc (Nat.le_refl _) _⟩
    · have h' : ¬ (u : Int) < 10 := by omega
      have HE : Hid (Lib.decDigits u = Lib.decDigits (u / 10) ++ [UInt8.ofNat (48 + u % 10)]) := hide (dec_ge h)
      have IH := hide ih
      clear ih
      go_enter Tryd.func78, Tryd.ntmps78
      have e10 : Hid ((u : Int) / 10 = ((u / 10 : Nat) : Int)) := hide (by omega)
      have e11 : Hid ((u : Int) % 10 = ((u % 10 : Nat) : Int)) := hide (by omega)
      go_wp2_with fail
      rw [e10.out]
      refine (IH.out (u / 10) (by omega) w (by omega)).mono ?_
      rintro e w1 ⟨rfl, b1⟩
      have hp := dec_len (u := u / 10) (by omega)
      have hq := dec_len (u := u % 10) (by omega)
      have HD : Hid (Lib.decDigits (u % 10) = [UInt8.ofNat (48 + u % 10)]) := hide (dec_lt (by omega))
      rw [← HD.out] at HE
      obtain ⟨p, hp0⟩ : ∃ p, Lib.decDigits (u / 10) = p := ⟨_, rfl⟩
      rw [hp0] at hp HE ⊢
      have HB1 := hide b1
      clear b1 hp0
      go_wp2_with fail
      rw [e11.out]
      refine (IH.out (u % 10) (by omega) w1 (by omega)).mono ?_
      rintro e w2 ⟨rfl, b2⟩
      obtain ⟨q, hq0⟩ : ∃ q, Lib.decDigits (u % 10) = q := ⟨_, rfl⟩
      rw [hq0] at hq HE ⊢
      have HB2 := hide (HB1.out.trans (b2.mono HB1.out.size))
      have hnz : ¬ 9223372036854775807 < p.length + q.length := by omega
      clear b2 hq0 HD IH e10 e11
      go_wp2_with fail
      go_ret
      exact ⟨by rw [HE.out, ← txt_app2]; rfl, HB2.out⟩
theorem nan_bits {f : Nat} (_hf : f < 18446744073709551616) : nanD f = decide (f / 4503599627370496 % 2048 = 2047 ∧ 0 < f % 4503599627370496) := by
  rw [nan_iff]
  by_cases h : f / 4503599627370496 % 2048 = 2047 ∧ 0 < f % 4503599627370496
  · rw [decide_eq_true h, decide_eq_true (by omega)]
  · rw [decide_eq_false h, decide_eq_false (by omega)]
set_option maxRecDepth 100000 in
set_option maxHeartbeats 1600000 in
theorem c_rparts (f : Nat) (hf : f < 18446744073709551616) (w : World) : Calls Tryd.prog 42 #[.float .f64 f] w fun e w' => e = .returned (.tuple #[.bool (pmW f), .int .u64 (poW f : Nat), .int .i64 (ppW f)]) ∧ w' = w := by
  have hb := run_fbits f
  have hnb := nan_bits hf
  obtain ⟨e, he⟩ : ∃ e, f / 4503599627370496 % 2048 = e := ⟨_, rfl⟩
  obtain ⟨m, hm⟩ : ∃ m, f % 4503599627370496 = m := ⟨_, rfl⟩
  rw [he, hm] at hnb
  have hfe : (f : Int) / 4503599627370496 % 2048 = (e : Int) := by omega
  have hfm : (f : Int) % 4503599627370496 = (m : Int) := by omega
  have hel : e ≤ 2047 := by omega
  have hwe : wrap64 (e : Int) = (e : Int) := IntWalk.wrap64_in _ (by omega)
  have hml : m < 4503599627370496 := by omega
  obtain ⟨s, hs⟩ : ∃ s, decide (9223372036854775808 ≤ f) = s := ⟨_, rfl⟩
  have hfs : ((f : Int) / 9223372036854775808 == 1) = s := by
    rw [← hs]
    by_cases h : 9223372036854775808 ≤ f
    · rw [decide_eq_true h]; exact beq_iff_eq.2 (by omega)
    · rw [decide_eq_false h]; exact beq_eq_false_iff_ne.2 (by omega)
  by_cases hnan : e = 2047 ∧ 0 < m
  · have hn : nanD f = true := by rw [hnb, decide_eq_true hnan]
    have e1 : pmW f = false := by rw [pmW, hn]; rfl
    have e2 : plainW f = false := by rw [plainW, hn]; rfl
    have e3 : poW f = 0 := by rw [poW, if_neg (by rw [e2]; decide)]
    have e4 : ppW f = 0 := by rw [ppW, if_neg (by rw [e2]; decide)]
    rw [e1, e3, e4]
    obtain ⟨rfl, hm0⟩ := hnan
    have hm0' : (0 : Int) < (m : Int) := by omega
    clear e1 e2 e3 e4 hf hnb he hm hs hn hel
    go_enter Tryd.func42, Tryd.ntmps42
    go_wp2_with fail
    exact bodyPost_ret (v := .tuple #[.bool false, .int .u64 0, .int .i64 0]) (by simp [results, Tryd.results42, go_sem]) rfl ⟨rfl, rfl⟩
  · have hn : nanD f = false := by rw [hnb, decide_eq_false hnan]
    have e1 : pmW f = s := by rw [pmW, hn, hs]; rfl
    rw [e1]
    by_cases hI : e = 2047
    · have hm0 : m = 0 := by omega
      have e2 : plainW f = false := by rw [plainW, hn, show decide (f % 9223372036854775808 = 9218868437227405312) = true from decide_eq_true (by omega)]; simp
      have e3 : poW f = 0 := by rw [poW, if_neg (by rw [e2]; decide)]
      have e4 : ppW f = 0 := by rw [ppW, if_neg (by rw [e2]; decide)]
      rw [e3, e4]
      subst hI hm0
      clear e1 e2 e3 e4 hf hnb he hm hs hn hel hnan
      go_enter Tryd.func42, Tryd.ntmps42
      go_wp2_with fail
      exact bodyPost_ret (v := .tuple #[.bool s, .int .u64 0, .int .i64 0]) (by simp [results, Tryd.results42, go_sem]) rfl ⟨rfl, rfl⟩
    · have hI' : ((e : Int) == 2047) = false := beq_eq_false_iff_ne.2 (by omega)
      by_cases h0 : e = 0 ∧ m = 0
      · have e2 : plainW f = false := by rw [plainW, hn, show decide (f % 9223372036854775808 = 0) = true from decide_eq_true (by omega)]; simp
        have e3 : poW f = 0 := by rw [poW, if_neg (by rw [e2]; decide)]
        have e4 : ppW f = 0 := by rw [ppW, if_neg (by rw [e2]; decide)]
        rw [e3, e4]
        obtain ⟨rfl, rfl⟩ := h0
        clear e1 e2 e3 e4 hf hnb he hm hs hn hel hnan hI
        go_enter Tryd.func42, Tryd.ntmps42
        go_wp2_with fail
        exact bodyPost_ret (v := .tuple #[.bool s, .int .u64 0, .int .i64 0]) (by simp [results, Tryd.results42, go_sem]) rfl ⟨rfl, rfl⟩
      · obtain ⟨b, hbb⟩ : ∃ b, f % 9223372036854775808 = b := ⟨_, rfl⟩
        have e2 : plainW f = true := by rw [plainW, hn, show decide (f % 9223372036854775808 = 0) = false from decide_eq_false (by omega), show decide (f % 9223372036854775808 = 9218868437227405312) = false from decide_eq_false (by omega)]; rfl
        have e3 : poW f = oddW b := by rw [poW, if_pos e2, hbb]
        have e4 : ppW f = powW b := by rw [ppW, if_pos e2, hbb]
        rw [e3, e4]
        have hb0 : 0 < b := by omega
        obtain ⟨o1, o2, o3⟩ := odd_spec hb0
        have hso := sig_lt b
        have hup := up_lt (b := b) (by omega)
        obtain ⟨o, ho⟩ : ∃ o, oddW b = o := ⟨_, rfl⟩
        obtain ⟨t, ht⟩ : ∃ t, tzW (sigW b) = t := ⟨_, rfl⟩
        obtain ⟨q, hq⟩ : ∃ q, powW b = q := ⟨_, rfl⟩
        rw [ho, ht] at o1
        rw [ho] at o2
        rw [ho, hq]
        have HO := hide o2
        have hq2 : q = (upW b : Int) - 1074 + t := by rw [← hq, powW, ht]
        have hqr : -1074 ≤ q - t ∧ q ≤ 3000 ∧ t < 53 := ⟨by omega, by omega, by omega⟩
        have HQR := hide hqr
        have rounds : ∀ (M : Nat) (j : Nat) (P : Int), M = o * 2 ^ j → P = q - j → True := fun _ _ _ _ _ => trivial
        by_cases hE0 : e = 0
        · have hM0 : Hid (m = o * 2 ^ t) := hide (by rw [← o1, (sig_sub (M := b) (by omega)).1]; omega)
          have hP0 : Hid ((-1074 : Int) = q - t) := hide (by rw [hq2, (sig_sub (M := b) (by omega)).2]; omega)
          have hm0 : ((m : Int) == 0) = false := beq_eq_false_iff_ne.2 (by omega)
          have HML := hide hml
          subst hE0
          clear e1 e2 e3 e4 hf hnb he hm hs hn hel hnan hI h0 hbb hb0 o1 o2 o3 hso hup ho ht hq hq2 hqr rounds hml
          go_enter Tryd.func42, Tryd.ntmps42
          go_wp2_with fail
          have hMl : m < 18446744073709551616 := by have := HML.out; omega
          go_loop [8, 9] (fun a c => ∃ (M j : Nat) (P : Int), a = .int .u64 (M : Int) ∧ c = .int .i64 P ∧ Hid (M = o * 2 ^ j) ∧ Hid (P = q - j) ∧ j ≤ t ∧ M < 18446744073709551616) (fun a _ => (intOf a).toNat)
          case atStart => exact ⟨m, t, -1074, congrArg (Value.int .u64) hfm, rfl, hM0, hP0, Nat.le_refl _, by have := HML.out; omega⟩
          case round =>
            obtain ⟨M, j, P, rfl, rfl, HM, HPP, hj, hM64⟩ := hrel
            cases j with
            | zero =>
              have hmo : Hid (M = o) := hide (by rw [HM.out]; omega)
              have hodd : ((M : Int) % 2 == 0) = false := beq_eq_false_iff_ne.2 (by have := hmo.out; have := HO.out; omega)
              have hPq : Hid (P = q) := hide (by rw [HPP.out]; omega)
              clear HM HPP
              go_wp2_with fail
              exact bodyPost_ret (v := .tuple #[.bool s, .int .u64 (M : Nat), .int .i64 P]) (by simp [results, Tryd.results42, go_sem]) rfl ⟨by rw [hmo.out, hPq.out], rfl⟩
            | succ j =>
              have HM2 : Hid (M / 2 = o * 2 ^ j) := hide (by rw [HM.out, Nat.pow_succ, ← Nat.mul_assoc]; exact Nat.mul_div_cancel _ (by decide))
              have hM2e : M % 2 = 0 := by rw [HM.out, Nat.pow_succ, ← Nat.mul_assoc]; exact Nat.mul_mod_left _ _
              have hev : ((M : Int) % 2 == 0) = true := beq_iff_eq.2 (by omega)
              have hM0' : 0 < M := by rw [HM.out]; exact Nat.mul_pos (by have := HO.out; omega) (Nat.two_pow_pos _)
              have hq2 : (M : Int) / 2 = ((M / 2 : Nat) : Int) := by omega
              have hwP : wrap64 (P + 1) = P + 1 := by
                have h1 := HPP.out
                have h2 := HQR.out
                exact IntWalk.wrap64_in _ (by omega)
              have HP1 : Hid (P + 1 = q - j) := hide (by rw [HPP.out]; omega)
              obtain ⟨N, hN⟩ : ∃ N, M / 2 = N := ⟨_, rfl⟩
              rw [hN] at HM2 hq2
              have hNl : N < M := by omega
              clear HM HPP hN hM2e
              go_wp2_with fail
              go_round
              case rel => exact ⟨N, j, P + 1, rfl, congrArg (Value.int .i64) hwP, HM2, HP1, by omega, by omega⟩
              case measure => simp [intOf]; omega
        · have hE0' : ((e : Int) == 0) = false := beq_eq_false_iff_ne.2 (by omega)
          have hE1' : (0 : Int) < (e : Int) := by omega
          obtain ⟨K, hK⟩ : ∃ K, m + 4503599627370496 = K := ⟨_, rfl⟩
          have hM0 : Hid (K = o * 2 ^ t) := hide (by
            rw [← o1, sigW, if_neg (by omega)]; omega)
          have hP0 : Hid ((e : Int) - 1075 = q - t) := hide (by
            rw [hq2, upW, if_neg (by omega)]; omega)
          have hwm : IntKind.u64.wrap ((m : Int) + 4503599627370496) = (K : Int) := by rw [IntKind.wrap_u64]; omega
          have HFM := hide hfm
          have HK := hide hK
          have hwp : wrap64 ((e : Int) - 1075) = (e : Int) - 1075 := IntWalk.wrap64_in _ (by omega)
          have HML := hide hml
          clear e1 e2 e3 e4 hf hnb he hm hs hn hel hnan hI h0 hbb hb0 o1 o2 o3 hso hup ho ht hq hq2 hqr rounds hml hE0 hK
          go_enter Tryd.func42, Tryd.ntmps42
          go_wp2_with fail
          go_loop [8, 9] (fun a c => ∃ (M j : Nat) (P : Int), a = .int .u64 (M : Int) ∧ c = .int .i64 P ∧ Hid (M = o * 2 ^ j) ∧ Hid (P = q - j) ∧ j ≤ t ∧ M < 18446744073709551616) (fun a _ => (intOf a).toNat)
          case atStart => exact ⟨K, t, (e : Int) - 1075, congrArg (Value.int .u64) (by have := HK.out; have := HFM.out; omega), rfl, hM0, hP0, Nat.le_refl _, by have := HML.out; have := HK.out; omega⟩
          case round =>
            obtain ⟨M, j, P, rfl, rfl, HM, HPP, hj, hM64⟩ := hrel
            cases j with
            | zero =>
              have hmo : Hid (M = o) := hide (by rw [HM.out]; omega)
              have hodd : ((M : Int) % 2 == 0) = false := beq_eq_false_iff_ne.2 (by have := hmo.out; have := HO.out; omega)
              have hPq : Hid (P = q) := hide (by rw [HPP.out]; omega)
              clear HM HPP
              go_wp2_with fail
              exact bodyPost_ret (v := .tuple #[.bool s, .int .u64 (M : Nat), .int .i64 P]) (by simp [results, Tryd.results42, go_sem]) rfl ⟨by rw [hmo.out, hPq.out], rfl⟩
            | succ j =>
              have HM2 : Hid (M / 2 = o * 2 ^ j) := hide (by rw [HM.out, Nat.pow_succ, ← Nat.mul_assoc]; exact Nat.mul_div_cancel _ (by decide))
              have hM2e : M % 2 = 0 := by rw [HM.out, Nat.pow_succ, ← Nat.mul_assoc]; exact Nat.mul_mod_left _ _
              have hev : ((M : Int) % 2 == 0) = true := beq_iff_eq.2 (by omega)
              have hM0' : 0 < M := by rw [HM.out]; exact Nat.mul_pos (by have := HO.out; omega) (Nat.two_pow_pos _)
              have hq2 : (M : Int) / 2 = ((M / 2 : Nat) : Int) := by omega
              have hwP : wrap64 (P + 1) = P + 1 := by
                have h1 := HPP.out
                have h2 := HQR.out
                exact IntWalk.wrap64_in _ (by omega)
              have HP1 : Hid (P + 1 = q - j) := hide (by rw [HPP.out]; omega)
              obtain ⟨N, hN⟩ : ∃ N, M / 2 = N := ⟨_, rfl⟩
              rw [hN] at HM2 hq2
              have hNl : N < M := by omega
              clear HM HPP hN hM2e
              go_wp2_with fail
              go_round
              case rel => exact ⟨N, j, P + 1, rfl, congrArg (Value.int .i64) hwP, HM2, HP1, by omega, by omega⟩
              case measure => simp [intOf]; omega
end Go.Proofs.YtckcadhjpjjmjaaDoor
namespace Go.Proofs.YtckcadhjpjjmjaaDoor
open Go.RowKit
theorem n_neg {n : Nat} (h : -1074 ≤ -(n : Int)) : n < 2000 := by omega
theorem n_pos {n : Nat} (h : (n : Int) ≤ 1023) : n < 2000 := by omega
theorem wrap_sm {n : Nat} (h : n < 2000) : wrap64 (n : Int) = (n : Int) := IntWalk.wrap64_in _ (by omega)
set_option maxRecDepth 100000 in
set_option maxHeartbeats 3200000 in
theorem c_rtext (f : Nat) (hf : f < 18446744073709551616) (w : World) : Calls Tryd.prog 46 #[.float .f64 f] w fun e w' => e = .returned (.string (txt (ctext f))) ∧ Below w.heap.size w w' := by
  have hself := self_d f
  cases hn : nanD f with
  | true =>
    rw [hn] at hself
    have he : ctext f = [] := by rw [ctext, if_pos hn]
    rw [he]
    clear he
    go_enter Tryd.func46, Tryd.ntmps46
    go_wp2_with fail
    go_ret
    exact ⟨rfl, Below.refl _ _⟩
  | false =>
    rw [hn] at hself
    have hb : f % 9223372036854775808 ≤ 9218868437227405312 := by
      rw [nan_iff] at hn
      have := of_decide_eq_false hn
      omega
    have hz := ord_zero hf
    obtain ⟨m, hm⟩ : ∃ m, decide (9223372036854775808 ≤ f) = m := ⟨_, rfl⟩
    have e1 : pmW f = m := by rw [pmW, hn, hm]; rfl
    obtain ⟨b, hbb⟩ : ∃ b, f % 9223372036854775808 = b := ⟨_, rfl⟩
    have HPT := hide (fun w => c_rparts f hf w)
    rw [hbb] at hb hz
    have hct : ctext f = (if m = true then [45] else []) ++ absT b := by
      rw [ctext, if_neg (by rw [hn]; decide), hbb]
      cases m with
      | true => rw [if_pos (of_decide_eq_true hm)]; rfl
      | false => rw [if_neg (of_decide_eq_false hm)]; rfl
    rw [e1] at HPT
    by_cases hI : b = 9218868437227405312
    · have ha : absT b = [105, 110, 102] := by rw [absT, if_pos hI]
      have e2 : plainW f = false := by rw [plainW, hbb, hI, decide_eq_true rfl]; simp
      have e3 : poW f = 0 := by rw [poW, if_neg (by rw [e2]; decide)]
      have e4 : ppW f = 0 := by rw [ppW, if_neg (by rw [e2]; decide)]
      rw [e3, e4] at HPT
      rw [decide_eq_false (by omega)] at hz
      rw [ha] at hct
      rw [hct]
      clear hf hbb hb hI e1 e2 e3 e4 ha hct hm
      cases m with
      | true =>
        have HE : Hid ((⟨#[45]⟩ : ByteArray) ++ ⟨#[105, 110, 102]⟩ = txt ([45] ++ [105, 110, 102])) := hide (by decide +kernel)
        go_enter Tryd.func46, Tryd.ntmps46
        go_wp2_with fail
        refine (HPT.out _).mono ?_
        rintro e w1 ⟨rfl, rfl⟩
        go_wp2_with fail
        go_ret
        exact ⟨congrArg (fun s => Ending.returned (Value.string s)) HE.out, Below.refl _ _⟩
      | false =>
        have HE : Hid ((⟨#[]⟩ : ByteArray) ++ ⟨#[105, 110, 102]⟩ = txt ([] ++ [105, 110, 102])) := hide (by decide +kernel)
        go_enter Tryd.func46, Tryd.ntmps46
        go_wp2_with fail
        refine (HPT.out _).mono ?_
        rintro e w1 ⟨rfl, rfl⟩
        go_wp2_with fail
        go_ret
        exact ⟨congrArg (fun s => Ending.returned (Value.string s)) HE.out, Below.refl _ _⟩
    · by_cases h0 : b = 0
      · rw [decide_eq_true h0] at hz
        have ha : absT b = [48] := by rw [absT, if_neg hI, if_pos h0]
        have e2 : plainW f = false := by rw [plainW, hbb, h0, decide_eq_true rfl]; simp
        have e3 : poW f = 0 := by rw [poW, if_neg (by rw [e2]; decide)]
        have e4 : ppW f = 0 := by rw [ppW, if_neg (by rw [e2]; decide)]
        rw [e3, e4] at HPT
        rw [ha] at hct
        rw [hct]
        clear hf hbb hb hI e1 e2 e3 e4 ha hct h0 hm
        cases m with
        | true =>
          have HE : Hid ((⟨#[45]⟩ : ByteArray) ++ ⟨#[48]⟩ = txt ([45] ++ [48])) := hide (by decide +kernel)
          go_enter Tryd.func46, Tryd.ntmps46
          go_wp2_with fail
          refine (HPT.out _).mono ?_
          rintro e w1 ⟨rfl, rfl⟩
          go_wp2_with fail
          go_ret
          exact ⟨congrArg (fun s => Ending.returned (Value.string s)) HE.out, Below.refl _ _⟩
        | false =>
          have HE : Hid ((⟨#[]⟩ : ByteArray) ++ ⟨#[48]⟩ = txt ([] ++ [48])) := hide (by decide +kernel)
          go_enter Tryd.func46, Tryd.ntmps46
          go_wp2_with fail
          refine (HPT.out _).mono ?_
          rintro e w1 ⟨rfl, rfl⟩
          go_wp2_with fail
          go_ret
          exact ⟨congrArg (fun s => Ending.returned (Value.string s)) HE.out, Below.refl _ _⟩
      · rw [decide_eq_false h0] at hz
        have hb0 : 0 < b := by omega
        have hbI : b < 9218868437227405312 := by omega
        have ha := absT_fin hb0 hbI
        have e2 : plainW f = true := by rw [plainW, hn, hbb, decide_eq_false h0, decide_eq_false hI]; rfl
        have e3 : poW f = oddW b := by rw [poW, if_pos e2, hbb]
        have e4 : ppW f = powW b := by rw [ppW, if_pos e2, hbb]
        rw [e3, e4] at HPT
        obtain ⟨o1, o2⟩ := odd_lt hb0
        obtain ⟨q1, q2⟩ := pow_rng hb0 hbI
        obtain ⟨o, ho⟩ : ∃ o, oddW b = o := ⟨_, rfl⟩
        obtain ⟨q, hq⟩ : ∃ q, powW b = q := ⟨_, rfl⟩
        rw [ho, hq] at HPT ha
        rw [ho] at o1 o2
        rw [hq] at q1 q2
        have ho0 : ((o : Int) == 0) = false := beq_eq_false_iff_ne.2 (by omega)
        by_cases hq0 : q < 0
        · obtain ⟨n, rfl⟩ : ∃ n : Nat, q = -(n : Int) := ⟨q.natAbs, by omega⟩
          have hit : Lib.itoa (-(n : Int)) = 45 :: Lib.decDigits n := by rw [Lib.itoa, if_pos hq0, Int.natAbs_neg, Int.natAbs_natCast]
          rw [hit] at ha
          clear hit
          have HO64 : Hid (o < 18446744073709551616) := hide (by omega)
          have HN64 : Hid (n < 18446744073709551616) := hide (by omega)
          have hdl := dec_len_le 16 o (by omega) (by decide)
          have hil := dec_len_le 4 n (by omega) (by decide)
          obtain ⟨D, hD⟩ : ∃ D, Lib.decDigits o = D := ⟨_, rfl⟩
          obtain ⟨I, hIq⟩ : ∃ I, Lib.decDigits n = I := ⟨_, rfl⟩
          have HD : Hid (txt (Lib.decDigits o) = txt D) := hide (by rw [hD])
          have HIT : Hid (txt (Lib.decDigits n) = txt I) := hide (by rw [hIq])
          rw [hD] at hdl
          rw [hIq] at hil
          rw [ha, hD, hIq] at hct
          rw [hct]
          have hsD := txt_size D
          have hsI := txt_size I
          have hn48 : n < 2000 := n_neg q1
          have hwn : wrap64 (n : Int) = (n : Int) := wrap_sm hn48
          clear hf hbb hb hI e1 ha hct h0 hb0 hbI e2 e3 e4 o1 q1 q2 ho hq hD hIq hm
          cases m with
          | true =>
            have HE : Hid ((((⟨#[45]⟩ : ByteArray) ++ txt D) ++ ⟨#[112, 45]⟩) ++ txt I = txt ((if true = true then [45] else []) ++ (D ++ 112 :: 45 :: I))) := hide (by
              rw [show (⟨#[45]⟩ : ByteArray) = txt [45] from rfl, show (⟨#[112, 45]⟩ : ByteArray) = txt [112, 45] from rfl, txt_app2, txt_app2, txt_app2]; simp)
            go_enter Tryd.func46, Tryd.ntmps46
            go_wp2_with fail
            refine (HPT.out _).mono ?_
            rintro e w1 ⟨rfl, rfl⟩
            go_wp2_with fail
            refine (c_num o _ HO64.out).mono ?_
            rintro e w3 ⟨rfl, b3⟩
            have B3 := hide b3
            clear b3
            rw [HD.out]
            go_wp2_with fail
            refine (c_num n _ HN64.out).mono ?_
            rintro e w4 ⟨rfl, b4⟩
            have B4 := hide (B3.out.trans (b4.mono B3.out.size))
            clear b4
            rw [HIT.out]
            go_wp2_with fail
            go_ret
            exact ⟨congrArg (fun s => Ending.returned (Value.string s)) HE.out, B4.out⟩
          | false =>
            have HE : Hid ((((⟨#[]⟩ : ByteArray) ++ txt D) ++ ⟨#[112, 45]⟩) ++ txt I = txt ((if false = true then [45] else []) ++ (D ++ 112 :: 45 :: I))) := hide (by
              rw [show (⟨#[]⟩ : ByteArray) = txt [] from rfl, show (⟨#[112, 45]⟩ : ByteArray) = txt [112, 45] from rfl, txt_app2, txt_app2, txt_app2]; simp)
            go_enter Tryd.func46, Tryd.ntmps46
            go_wp2_with fail
            refine (HPT.out _).mono ?_
            rintro e w1 ⟨rfl, rfl⟩
            go_wp2_with fail
            refine (c_num o _ HO64.out).mono ?_
            rintro e w3 ⟨rfl, b3⟩
            have B3 := hide b3
            clear b3
            rw [HD.out]
            go_wp2_with fail
            refine (c_num n _ HN64.out).mono ?_
            rintro e w4 ⟨rfl, b4⟩
            have B4 := hide (B3.out.trans (b4.mono B3.out.size))
            clear b4
            rw [HIT.out]
            go_wp2_with fail
            go_ret
            exact ⟨congrArg (fun s => Ending.returned (Value.string s)) HE.out, B4.out⟩
        · obtain ⟨n, rfl⟩ : ∃ n : Nat, q = (n : Int) := ⟨q.toNat, by omega⟩
          have hit : Lib.itoa (n : Int) = Lib.decDigits n := by rw [Lib.itoa, if_neg hq0, Int.toNat_natCast]
          rw [hit] at ha
          clear hit
          have HO64 : Hid (o < 18446744073709551616) := hide (by omega)
          have HN64 : Hid (n < 18446744073709551616) := hide (by omega)
          have hdl := dec_len_le 16 o (by omega) (by decide)
          have hil := dec_len_le 4 n (by omega) (by decide)
          obtain ⟨D, hD⟩ : ∃ D, Lib.decDigits o = D := ⟨_, rfl⟩
          obtain ⟨I, hIq⟩ : ∃ I, Lib.decDigits n = I := ⟨_, rfl⟩
          have HD : Hid (txt (Lib.decDigits o) = txt D) := hide (by rw [hD])
          have HIT : Hid (txt (Lib.decDigits n) = txt I) := hide (by rw [hIq])
          rw [hD] at hdl
          rw [hIq] at hil
          rw [ha, hD, hIq] at hct
          rw [hct]
          have hsD := txt_size D
          have hsI := txt_size I
          have hn48 : n < 2000 := n_pos q2
          have hwn : wrap64 (n : Int) = (n : Int) := wrap_sm hn48
          clear hf hbb hb hI e1 ha hct h0 hb0 hbI e2 e3 e4 o1 q1 q2 ho hq hD hIq hm
          cases m with
          | true =>
            have HE : Hid ((((⟨#[45]⟩ : ByteArray) ++ txt D) ++ ⟨#[112]⟩) ++ txt I = txt ((if true = true then [45] else []) ++ (D ++ 112 :: I))) := hide (by
              rw [show (⟨#[45]⟩ : ByteArray) = txt [45] from rfl, show (⟨#[112]⟩ : ByteArray) = txt [112] from rfl, txt_app2, txt_app2, txt_app2]; simp)
            go_enter Tryd.func46, Tryd.ntmps46
            go_wp2_with fail
            refine (HPT.out _).mono ?_
            rintro e w1 ⟨rfl, rfl⟩
            go_wp2_with fail
            refine (c_num o _ HO64.out).mono ?_
            rintro e w3 ⟨rfl, b3⟩
            have B3 := hide b3
            clear b3
            rw [HD.out]
            go_wp2_with fail
            refine (c_num n _ HN64.out).mono ?_
            rintro e w4 ⟨rfl, b4⟩
            have B4 := hide (B3.out.trans (b4.mono B3.out.size))
            clear b4
            rw [HIT.out]
            go_wp2_with fail
            go_ret
            exact ⟨congrArg (fun s => Ending.returned (Value.string s)) HE.out, B4.out⟩
          | false =>
            have HE : Hid ((((⟨#[]⟩ : ByteArray) ++ txt D) ++ ⟨#[112]⟩) ++ txt I = txt ((if false = true then [45] else []) ++ (D ++ 112 :: I))) := hide (by
              rw [show (⟨#[]⟩ : ByteArray) = txt [] from rfl, show (⟨#[112]⟩ : ByteArray) = txt [112] from rfl, txt_app2, txt_app2, txt_app2]; simp)
            go_enter Tryd.func46, Tryd.ntmps46
            go_wp2_with fail
            refine (HPT.out _).mono ?_
            rintro e w1 ⟨rfl, rfl⟩
            go_wp2_with fail
            refine (c_num o _ HO64.out).mono ?_
            rintro e w3 ⟨rfl, b3⟩
            have B3 := hide b3
            clear b3
            rw [HD.out]
            go_wp2_with fail
            refine (c_num n _ HN64.out).mono ?_
            rintro e w4 ⟨rfl, b4⟩
            have B4 := hide (B3.out.trans (b4.mono B3.out.size))
            clear b4
            rw [HIT.out]
            go_wp2_with fail
            go_ret
            exact ⟨congrArg (fun s => Ending.returned (Value.string s)) HE.out, B4.out⟩
end Go.Proofs.YtckcadhjpjjmjaaDoor
namespace Go.Proofs.YtckcadhjpjjmjaaDoor
open Go.RowKit
def okN (n : Nat) (ok : Bool) : Option Nat := if ok = true then some n else none
/-- What digits, and Of, answer. -/
def DigR (most : Nat) (x : List UInt8) (e : Ending) : Prop := ∃ (r : Nat) (ok : Bool), e = .returned (.tuple #[.int .u64 (r : Int), .bool ok]) ∧ digD most x = okN r ok ∧ r < 18446744073709551616
def OfR (m : Nat) (p : Int) (e : Ending) : Prop := ∃ (g : Nat) (ok : Bool), e = .returned (.tuple #[.float .f64 g, .bool ok]) ∧ ofB m p = okN g ok
def stepN (n : Nat) (y : UInt8) : Nat := n * 10 + (y.toNat - 48)
theorem foldN_snoc (a : List UInt8) (y : UInt8) : foldN (a ++ [y]) = stepN (foldN a) y := by unfold foldN; rw [List.foldl_append]; rfl
theorem foldN_nil : foldN [] = 0 := rfl
theorem odd_no {x : List UInt8} {most : Nat} (h : oddD x = true) : digD most x = none := by
  unfold digD
  rw [if_neg]
  rintro ⟨-, h2⟩
  have h3 : oddD (Lib.decDigits (foldN x)) = true := by rw [h2]; exact h
  obtain ⟨b, hb, hbo⟩ := List.any_eq_true.1 h3
  have := dec_digits _ b hb
  simp at hbo
  omega
theorem step_wrap (r : Nat) (y : UInt8) (hr : r < 10000000000000000) (hy : ¬ y.toNat < 48) : IntKind.u64.wrap (IntKind.u64.wrap (IntKind.u64.wrap ((r : Int) * 10) + (y.toNat : Int)) - 48) = ((stepN r y : Nat) : Int) := by
  have := y.toNat_lt
  rw [IntKind.wrap_u64, IntKind.wrap_u64, IntKind.wrap_u64, stepN]
  omega
theorem step_lt {r k : Nat} {y : UInt8} (hr : r < 10 ^ k) (hy : ¬ 57 < y.toNat) : stepN r y < 10 ^ (k + 1) := by
  rw [Nat.pow_succ, stepN]; omega
theorem pow16 {r k : Nat} (hr : r < 10 ^ k) (hk : k ≤ 16) : r < 10000000000000000 := by
  have h1 := Nat.pow_le_pow_right (n := 10) (by decide) hk
  have h2 : (10 : Nat) ^ 16 = 10000000000000000 := by decide
  omega
set_option maxRecDepth 100000 in
set_option maxHeartbeats 1600000 in
theorem c_rdig (x : List UInt8) (most : Nat) (w : World) (hx : x.length ≤ 1000000) (hm : most ≤ 16) :
    Calls Tryd.prog 75 #[.string (txt x), .int .i64 (most : Int)] w fun e w' => DigR most x e ∧ Below w.heap.size w w' := by
  have hsz : (txt x).size = x.length := txt_size x
  obtain ⟨n, hn⟩ : ∃ n, x.length = n := ⟨_, rfl⟩
  rw [hn] at hsz hx
  have HL := hide hn
  clear hn
  by_cases h20 : most < n
  · have h20' : (most : Int) < n := by omega
    have HE : Hid (digD most x = none) := hide (by
      have := HL.out
      rw [digD, if_neg (fun h => by omega)])
    go_enter Tryd.func75, Tryd.ntmps75
    go_wp2_with fail
    exact bodyPost_ret (v := .tuple #[.int .u64 0, .bool false]) (by simp [results, Tryd.results75, go_sem]) rfl ⟨⟨0, false, rfl, HE.out, by decide⟩, Below.refl _ _⟩
  · have h20' : ¬ (most : Int) < n := by omega
    go_enter Tryd.func75, Tryd.ntmps75
    go_wp2_with fail
    go_loop [6, 7] (fun q i => ∃ (k r : Nat), k ≤ n ∧ i = .int .i64 (k : Int) ∧ q = .int .u64 (r : Int) ∧ Hid (r < 10 ^ k) ∧ Hid (r = foldN (x.take k)) ∧ Hid (oddD (x.take k) = false)) (fun _ i => n - (intOf i).toNat)
    case atStart => exact ⟨0, 0, Nat.zero_le _, rfl, rfl, hide (by decide), hide rfl, hide rfl⟩
    case round =>
      obtain ⟨k, r, hk, rfl, rfl, HR, HF, HT⟩ := hrel
      by_cases hlt : k < n
      · obtain ⟨y, hy⟩ : ∃ y, x[k]? = some y := ⟨_, List.getElem?_eq_getElem (by have := HL.out; omega)⟩
        have hix := txt_byte (P := Tryd.prog) Tryd.underlying9 hy .i64
        have hT2 : oddD (x.take (k + 1)) = (decide (y.toNat < 48) || decide (57 < y.toNat)) := by
          have h := HT.out
          unfold oddD at h ⊢
          rw [List.take_add_one, hy, List.any_append, h, Bool.false_or]
          simp
        have HF2 : Hid (stepN r y = foldN (x.take (k + 1))) := hide (by
          rw [List.take_add_one, hy, HF.out]
          exact (foldN_snoc _ y).symm)
        have hmem : y ∈ x := List.mem_of_getElem? hy
        clear hy
        by_cases ha : y.toNat < 48
        · have HE : Hid (digD most x = none) := hide (odd_no (show oddD x = true from List.any_eq_true.2 ⟨y, hmem, by simp; omega⟩))
          have ha' : (y.toNat : Int) < 48 := by omega
          clear hT2
          go_wp2_with fail
          exact bodyPost_ret (v := .tuple #[.int .u64 0, .bool false]) (by simp [results, Tryd.results75, go_sem]) rfl ⟨⟨0, false, rfl, HE.out, by decide⟩, Below.refl _ _⟩
        · have ha' : ¬ (y.toNat : Int) < 48 := by omega
          by_cases hz : 57 < y.toNat
          · have HE : Hid (digD most x = none) := hide (odd_no (show oddD x = true from List.any_eq_true.2 ⟨y, hmem, by simp; omega⟩))
            have hz' : (57 : Int) < (y.toNat : Int) := by omega
            clear hT2
            go_wp2_with fail
            exact bodyPost_ret (v := .tuple #[.int .u64 0, .bool false]) (by simp [results, Tryd.results75, go_sem]) rfl ⟨⟨0, false, rfl, HE.out, by decide⟩, Below.refl _ _⟩
          · have hz' : ¬ (57 : Int) < (y.toNat : Int) := by omega
            have HT2 : Hid (oddD (x.take (k + 1)) = false) := hide (by rw [hT2, decide_eq_false ha, decide_eq_false hz]; rfl)
            have HW := hide (step_wrap r y (pow16 HR.out (by omega)) ha)
            have HR2 := hide (step_lt HR.out hz)
            clear hT2
            go_wp2_with fail
            go_round
            case rel => exact ⟨k + 1, stepN r y, by omega, by simp, congrArg (Value.int .u64) HW.out, HR2, HF2, HT2⟩
            case measure => simp [intOf]; omega
      · obtain rfl : k = n := by omega
        have hr64 : Hid (r < 18446744073709551616) := hide (by have := pow16 HR.out (by omega); omega)
        have HO : Hid (digD most x = if Lib.decDigits r = x then some r else none) := hide (by
          have h1 := HF.out
          rw [List.take_of_length_le (Nat.le_of_eq HL.out)] at h1
          have h2 := HL.out
          rw [digD, ← h1]
          by_cases h : Lib.decDigits r = x
          · rw [if_pos h, if_pos ⟨by omega, h⟩]
          · rw [if_neg h, if_neg (fun q => h q.2)])
        go_wp2_with fail
        refine (c_num r w hr64.out).mono ?_
        rintro e w2 ⟨rfl, b2⟩
        have HB2 := hide b2
        obtain ⟨D, hD⟩ : ∃ D, Lib.decDigits r = D := ⟨_, rfl⟩
        rw [hD] at HO ⊢
        clear b2 hD
        by_cases hDx : D = x
        · have HE : Hid (digD most x = some r) := hide (by rw [HO.out, if_pos hDx])
          subst hDx
          go_wp2_with fail
          exact bodyPost_ret (v := .tuple #[.int .u64 (r : Int), .bool true]) (by simp [results, Tryd.results75, go_sem]) rfl ⟨⟨r, true, rfl, HE.out, hr64.out⟩, HB2.out⟩
        · have HE : Hid (digD most x = none) := hide (by rw [HO.out, if_neg hDx])
          have hbq : (D == x) = false := beq_eq_false_iff_ne.2 hDx
          go_wp2_with fail
          exact bodyPost_ret (v := .tuple #[.int .u64 (r : Int), .bool false]) (by simp [results, Tryd.results75, go_sem]) rfl ⟨⟨r, false, rfl, HE.out, hr64.out⟩, HB2.out⟩
/-- How far an odd number goes. -/
theorem of_step {m : Nat} (hm0 : m ≠ 0) (hm : m < 9007199254740992) {k : Nat} (hk : k ≤ 52 - m.log2) : m * 2 ^ k < 9007199254740992 ∧ (m * 2 ^ k < 4503599627370496 ↔ k < 52 - m.log2) := by
  have hl := int_log hm hm0
  have h1 := log_lo hm0
  have h2 := log_hi hm0
  have h3 := Nat.mul_le_mul_right (2 ^ k) h1
  have h4 := Nat.mul_lt_mul_of_pos_right h2 (Nat.two_pow_pos k)
  rw [← Nat.pow_add] at h3 h4
  have e53 : (2 : Nat) ^ 53 = 9007199254740992 := by decide
  have e52 : (2 : Nat) ^ 52 = 4503599627370496 := by decide
  refine ⟨?_, ?_, ?_⟩
  · have := Nat.pow_le_pow_right (n := 2) (by decide) (show m.log2 + 1 + k ≤ 53 by omega); omega
  · intro h
    rcases Nat.lt_or_ge k (52 - m.log2) with h5 | h5
    · exact h5
    · have := Nat.pow_le_pow_right (n := 2) (by decide) (show 52 ≤ m.log2 + k by omega); omega
  · intro h
    have := Nat.pow_le_pow_right (n := 2) (by decide) (show m.log2 + 1 + k ≤ 52 by omega); omega
set_option maxRecDepth 100000 in
set_option maxHeartbeats 3200000 in
theorem c_of (m : Nat) (p : Int) (w : World) (hm64 : m < 18446744073709551616) :
    Calls Tryd.prog 76 #[.int .u64 (m : Int), .int .i64 p] w fun e w' => OfR m p e ∧ w' = w := by
  have no : ∀ (h : ¬ (m % 2 = 1 ∧ m < 9007199254740992 ∧ -1074 ≤ p ∧ p ≤ 1023)), Hid (ofB m p = none) := fun h => hide (by rw [ofB, if_neg (fun q => h ⟨q.1, q.2.1, q.2.2.1, q.2.2.2.1⟩)])
  by_cases h1 : m % 2 = 0
  · have HE := no (by omega)
    have h1' : ((m : Int) % 2 == 0) = true := beq_iff_eq.2 (by omega)
    clear no
    go_enter Tryd.func76, Tryd.ntmps76
    go_wp2_with fail
    exact bodyPost_ret (v := .tuple #[.float .f64 0, .bool false]) (by simp [results, Tryd.results76, go_sem]) rfl ⟨⟨0, false, rfl, HE.out⟩, rfl⟩
  have h1' : ((m : Int) % 2 == 0) = false := beq_eq_false_iff_ne.2 (by omega)
  by_cases h2 : 9007199254740992 ≤ m
  · have HE := no (by omega)
    have h2' : (9007199254740992 : Int) ≤ (m : Int) := by omega
    clear no h1 h2
    go_enter Tryd.func76, Tryd.ntmps76
    go_wp2_with fail
    exact bodyPost_ret (v := .tuple #[.float .f64 0, .bool false]) (by simp [results, Tryd.results76, go_sem]) rfl ⟨⟨0, false, rfl, HE.out⟩, rfl⟩
  have h2' : ¬ (9007199254740992 : Int) ≤ (m : Int) := by omega
  by_cases h3 : p < -1074
  · have HE := no (by omega)
    clear no h1 h2
    go_enter Tryd.func76, Tryd.ntmps76
    go_wp2_with fail
    exact bodyPost_ret (v := .tuple #[.float .f64 0, .bool false]) (by simp [results, Tryd.results76, go_sem]) rfl ⟨⟨0, false, rfl, HE.out⟩, rfl⟩
  by_cases h4 : 1023 < p
  · have HE := no (by omega)
    clear no h1 h2
    go_enter Tryd.func76, Tryd.ntmps76
    go_wp2_with fail
    exact bodyPost_ret (v := .tuple #[.float .f64 0, .bool false]) (by simp [results, Tryd.results76, go_sem]) rfl ⟨⟨0, false, rfl, HE.out⟩, rfl⟩
  have hJ : ∃ J, ofJ m p = J := ⟨_, rfl⟩
  obtain ⟨J, hJ⟩ := hJ
  have HD : Hid (ofB m p = if p - J ≤ 971 then some ((p - J + 1074).toNat * 4503599627370496 + m * 2 ^ J) else none) := hide (by
    rw [ofB, hJ]
    by_cases h : p - J ≤ 971
    · rw [if_pos h, if_pos ⟨by omega, by omega, by omega, by omega, h⟩]
    · rw [if_neg h, if_neg (fun q => h q.2.2.2.2)])
  have hJ1 : J ≤ 52 - m.log2 := by rw [← hJ]; exact Nat.min_le_left _ _
  have hJ2 : (J : Int) ≤ p + 1074 := by rw [← hJ]; unfold ofJ; omega
  have hJ3 : J = 52 - m.log2 ∨ (J : Int) = p + 1074 := by rw [← hJ]; unfold ofJ; omega
  have HST : Hid (∀ k, k ≤ J → m * 2 ^ k < 9007199254740992 ∧ (m * 2 ^ k < 4503599627370496 ∧ -1074 < p - k ↔ k < J)) := hide (fun k hk => by
    obtain ⟨s1, s2⟩ := of_step (m := m) (by omega) (by omega) (show k ≤ 52 - m.log2 by omega)
    refine ⟨s1, fun h => ?_, fun h => ⟨s2.2 (by omega), by omega⟩⟩
    have := s2.1 h.1
    omega)
  have HJ2 := hide hJ2
  have HM1 := hide h1
  clear no h1 h2 hJ hJ1 hJ2 hJ3 hm64
  go_enter Tryd.func76, Tryd.ntmps76
  go_wp2_with fail
  go_loop [0, 1] (fun a c => ∃ (M k : Nat) (P : Int), a = .int .u64 (M : Int) ∧ c = .int .i64 P ∧ Hid (M = m * 2 ^ k) ∧ Hid (P = p - k) ∧ k ≤ J) (fun _ c => ((intOf c) + 1074).toNat)
  case atStart => exact ⟨m, 0, p, rfl, rfl, hide (by rw [Nat.pow_zero, Nat.mul_one]), hide (by omega), Nat.zero_le _⟩
  case round =>
    obtain ⟨M, k, P, rfl, rfl, HM, HPP, hk⟩ := hrel
    have hst := HST.out k hk
    rw [← HM.out, ← HPP.out] at hst
    have hPr : -1074 ≤ P ∧ P ≤ 1023 := by have := HPP.out; have := HJ2.out; omega
    by_cases hkJ : k < J
    · obtain ⟨c1, c2⟩ := hst.2.2 hkJ
      have c1' : (M : Int) < 4503599627370496 := by omega
      obtain ⟨N, hN⟩ : ∃ N, M * 2 = N := ⟨_, rfl⟩
      have hwN : IntKind.u64.wrap ((M : Int) * 2) = (N : Int) := by rw [IntKind.wrap_u64]; omega
      have hMN : (M : Int) * 2 = (N : Int) := by omega
      have hwP : wrap64 (P - 1) = P - 1 := IntWalk.wrap64_in _ (by omega)
      have HN2 : Hid (N = m * 2 ^ (k + 1)) := hide (by rw [← hN, HM.out, Nat.pow_succ, Nat.mul_assoc])
      have HP2 : Hid (P - 1 = p - ((k + 1 : Nat) : Int)) := hide (by rw [HPP.out]; omega)
      have HPR := hide hPr
      clear hst hN hPr
      go_wp2_with fail
      go_round
      case rel => exact ⟨N, k + 1, P - 1, by first | rfl | exact congrArg (Value.int .u64) hwN | exact congrArg (Value.int .u64) hMN, by first | rfl | exact congrArg (Value.int .i64) hwP, HN2, HP2, by omega⟩
      case measure =>
        have := HPR.out
        simp [intOf]
        omega
    · obtain rfl : k = J := by omega
      have hnot : ¬ (M < 4503599627370496 ∧ -1074 < P) := fun h => hkJ (hst.2.1 h)
      have hM53 := hst.1
      have HD2 : Hid (ofB m p = if P ≤ 971 then some ((P + 1074).toNat * 4503599627370496 + M) else none) := hide (by rw [HD.out, ← HM.out, ← HPP.out])
      clear HD HM HPP HST hst
      by_cases hsm : M < 4503599627370496
      · have hsm' : (M : Int) < 4503599627370496 := by omega
        have hP0 : P = -1074 := by omega
        subst hP0
        have HE : Hid (ofB m p = some M) := hide (by rw [HD2.out, if_pos (by decide)]; simp)
        have hff := run_ffrom M
        clear hnot hPr hsm
        go_wp2_with fail
        exact bodyPost_ret (v := .tuple #[.float .f64 M, .bool true]) (by simp [results, Tryd.results76, go_sem]) rfl ⟨⟨M, true, rfl, HE.out⟩, rfl⟩
      · have hsm' : ¬ (M : Int) < 4503599627370496 := by omega
        by_cases hbig : 971 < P
        · have HE : Hid (ofB m p = none) := hide (by rw [HD2.out, if_neg (by omega)])
          go_wp2_with fail
          exact bodyPost_ret (v := .tuple #[.float .f64 0, .bool false]) (by simp [results, Tryd.results76, go_sem]) rfl ⟨⟨0, false, rfl, HE.out⟩, rfl⟩
        · obtain ⟨g, hg⟩ : ∃ g, (P + 1074).toNat * 4503599627370496 + M = g := ⟨_, rfl⟩
          have HE : Hid (ofB m p = some g) := hide (by rw [HD2.out, if_pos (by omega), hg])
          have hga : (P + 1075) * 4503599627370496 + (M : Int) - 4503599627370496 = (g : Int) := by omega
          have hff := run_ffrom g
          rw [← hga] at hff
          clear hga hg
          go_wp2_with fail
          exact bodyPost_ret (v := .tuple #[.float .f64 g, .bool true]) (by simp [results, Tryd.results76, go_sem]) rfl ⟨⟨g, true, rfl, HE.out⟩, rfl⟩
end Go.Proofs.YtckcadhjpjjmjaaDoor
namespace Go.Proofs.YtckcadhjpjjmjaaDoor
open Go.RowKit
def ParR (x : List UInt8) (e : Ending) : Prop := ∃ (g : Nat) (ok : Bool), e = .returned (.tuple #[.float .f64 g, .bool ok]) ∧ rparseB x = okN g ok ∧ (ok = false → g = 0)
/-- Zero and infinity, of both signs. -/
def spW : List Nat := [0, 9223372036854775808, 9218868437227405312, 18442240474082181120]
theorem rp_hit (x : List UInt8) : ∀ (k f : Nat), spW[k]? = some f → (∀ j g, j < k → spW[j]? = some g → x ≠ ctext g) → x = ctext f → rparseB x = some f := by
  intro k f hk hj hx
  unfold rparseB
  have hk4 : k < 4 := (List.getElem?_eq_some_iff.1 hk).1
  rcases (show k = 0 ∨ k = 1 ∨ k = 2 ∨ k = 3 by omega) with rfl | rfl | rfl | rfl
  · obtain rfl : 0 = f := Option.some.inj hk
    rw [if_pos hx]
  · obtain rfl : 9223372036854775808 = f := Option.some.inj hk
    rw [if_neg (hj 0 0 (by omega) rfl), if_pos hx]
  · obtain rfl : 9218868437227405312 = f := Option.some.inj hk
    rw [if_neg (hj 0 0 (by omega) rfl), if_neg (hj 1 9223372036854775808 (by omega) rfl), if_pos hx]
  · obtain rfl : 18442240474082181120 = f := Option.some.inj hk
    rw [if_neg (hj 0 0 (by omega) rfl), if_neg (hj 1 9223372036854775808 (by omega) rfl), if_neg (hj 2 9218868437227405312 (by omega) rfl), if_pos hx]
theorem rp_miss (x : List UInt8) (hj : ∀ j g, j < 4 → spW[j]? = some g → x ≠ ctext g) : rparseB x = if x.head? = some 45 then (rabs x.tail).map (9223372036854775808 + ·) else rabs x := by
  unfold rparseB
  rw [if_neg (hj 0 0 (by omega) rfl), if_neg (hj 1 9223372036854775808 (by omega) rfl), if_neg (hj 2 9218868437227405312 (by omega) rfl), if_neg (hj 3 18442240474082181120 (by omega) rfl)]
theorem dec_len_ge : ∀ n u : Nat, 10 ^ n ≤ u → n < (Lib.decDigits u).length := by
  intro n
  induction n with
  | zero => intro u _; exact List.length_pos_iff.2 (dec_ne u)
  | succ n ih =>
    intro u hu
    have hp := Nat.pow_pos (n := n) (show 0 < 10 by decide)
    rw [Nat.pow_succ] at hu
    rw [dec_ge (by omega), List.length_append, List.length_singleton]
    have := ih (u / 10) (by omega)
    omega
theorem dig_small {t : List UInt8} {p : Nat} (h : digD 4 t = some p) : p < 10000 := by
  obtain ⟨h1, h2⟩ := digD_some h
  rcases Nat.lt_or_ge p 10000 with h3 | h3
  · exact h3
  · have := dec_len_ge 4 p h3
    rw [← h1] at this
    omega
theorem rabs_at {H T : List UInt8} (h : ∀ y ∈ H, y ≠ 112) : rabs (H ++ 112 :: T) = match digD 16 H, digD 4 (rpow T).1 with
  | some m, some p => ofB m ((rpow T).2 * p)
  | _, _ => none := by
  obtain ⟨c1, c2⟩ := cut_app (t := T) h
  rw [rabs, if_pos (by simp), c1, c2] <;> (cases digD 16 H <;> cases digD 4 (rpow T).1 <;> rfl)
theorem c_minfn (w : World) : Calls Tryd.prog 21 #[.int .i64 (-1)] w fun e w' => e = .returned (.float .f64 18442240474082181120) ∧ w' = w := by
  have ff : ∀ w : World, (callFunc 17 #[.int .u64 18442240474082181120]).run Tryd.prog w = .ok (.value (.float .f64 18442240474082181120)) w := run_ffrom 18442240474082181120
  go_enter Tryd.func21, Tryd.ntmps21
  go_wp2_with fail
  go_ret
  exact ⟨rfl, rfl⟩
def spC : Array Value := #[.float .f64 0, .float .f64 9223372036854775808, .float .f64 9218868437227405312, .float .f64 18442240474082181120]
theorem sp_idx (g k : Nat) (hk : k < 4) : ∀ wx : World, (Instr.indexAt 84 (.slice (some ⟨g, 0, none⟩) 4 4) (.int .i64 (k : Int))).run Tryd.prog wx = .ok (.pointer (some ⟨g, k, none⟩)) wx := fun wx => by
  have hE : (Tryd.prog.info? 31).map (·.size) = some 1 := by kernel_rfl
  cases hq : Tryd.prog.info? 31 with
  | none => rw [hq] at hE; cases hE
  | some x =>
    rw [hq] at hE
    have : x.size = 1 := by simpa using hE
    simp [Instr.indexAt, asIntOf, run_underlying Tryd.underlying84, sizeOf, typeInfo, hq, this, hk, Addr.add]
    omega
theorem sp_cell {w : World} {g k f : Nat} {fr : Nat × Nat} (h : w.heap[g]? = some (.cells spC 31 fr)) (hk : spW[k]? = some f) : w.cell? ⟨g, k, none⟩ = some (.float .f64 f) := by
  have hk4 : k < 4 := (List.getElem?_eq_some_iff.1 hk).1
  rcases (show k = 0 ∨ k = 1 ∨ k = 2 ∨ k = 3 by omega) with rfl | rfl | rfl | rfl <;> (obtain rfl := Option.some.inj hk; simp [World.cell?, h, spC])
theorem sp_lt {k f : Nat} (hk : spW[k]? = some f) : f < 18446744073709551616 := by
  have hm : f ∈ spW := List.mem_of_getElem? hk
  simp [spW] at hm
  omega
theorem meas_k {k n : Nat} (h : k < n) : n - ((k : Int) + 1).toNat < n - ((k : Int)).toNat := by omega
theorem wrap_p {p : Nat} (h : p < 10000) : wrap64 (p : Int) = (p : Int) := IntWalk.wrap64_in _ (by omega)
theorem wrap_pn {p : Nat} (h : p < 10000) : wrap64 (-(p : Int)) = -(p : Int) := IntWalk.wrap64_in _ (by omega)
theorem wrap_k {k n : Nat} (h : k < n) (hn : n ≤ 1000000) : wrap64 ((k : Int) + 1) = (k : Int) + 1 := IntWalk.wrap64_in _ (by omega)
theorem nat_k {k : Nat} : ((k : Int) + 1).toNat = k + 1 := by omega
theorem le_k {k n : Nat} (h : k < n) : (k : Int) + 1 ≤ (n : Int) := by omega
theorem sub_le {k n : Nat} (hn : n ≤ 1000000) : n - (k + 1) ≤ 1000000 := by omega
theorem lt_i {a : Nat} (h : 1 < a) : (1 : Int) < (a : Int) := by omega
theorem nlt_i {a : Nat} (h : ¬ 1 < a) : ¬ (1 : Int) < (a : Int) := by omega
theorem neg_mul1 (p : Nat) : (-1 : Int) * (p : Int) = -(p : Int) := by omega
theorem one_mul1 (p : Nat) : (1 : Int) * (p : Int) = (p : Int) := by omega
theorem nc112 {y : UInt8} (h : y ≠ 112) : ¬ y.toNat = 112 := fun h1 => h (by
  apply UInt8.toNat_inj.1
  rw [h1]; rfl)
theorem nb112 {y : UInt8} (h : y ≠ 112) : ¬ (y.toNat : Int) = 112 := fun e => nc112 h (by omega)
theorem na112 {y : UInt8} (h : y ≠ 112) : ((y.toNat : Int) == 112) = false := beq_eq_false_iff_ne.2 (nb112 h)
theorem ne112 {y : UInt8} (h : y ≠ 112) : ((y.toNat : Int) != 112) = true := bne_iff_ne.2 fun e => h (by
  apply UInt8.toNat_inj.1
  have h1 : y.toNat = 112 := by omega
  rw [h1]; rfl)
theorem ne45 {y : UInt8} (h : y ≠ 45) : ((y.toNat : Int) == 45) = false := beq_eq_false_iff_ne.2 fun e => h (by
  apply UInt8.toNat_inj.1
  have h1 : y.toNat = 45 := by omega
  rw [h1]; rfl)
theorem txt_b0 {P : Program} {T : TypeId} (h : P.underlying T = some .string) {s : List UInt8} {y : UInt8} (hy : s[0]? = some y) : ∀ W : World, (Instr.index T (.string (txt s)) (.int .i64 0)).run P W = .ok (bv y) W := txt_byte h hy .i64
theorem txt_pos {x : List UInt8} {c : UInt8} (h : x[0]? = some c) : 0 < (txt x).size := by
  rw [txt_size]; exact (List.getElem?_eq_some_iff.1 h).1
theorem txt_get {x : List UInt8} {c : UInt8} (h : x[0]? = some c) (hc : c ≠ 45) : ((((txt x)[0]'(txt_pos h)).toNat : Int) == 45) = false := by
  obtain ⟨h1, h2⟩ := List.getElem?_eq_some_iff.1 h
  have e : (txt x)[0]'(txt_pos h) = c := by
    show (x.toArray)[0]'_ = c
    rw [List.getElem_toArray]; exact h2
  rw [e]; exact ne45 hc
theorem cut_at {Y : List UInt8} {k : Nat} (hy : Y[k]? = some 112) (h : ∀ y ∈ Y.take k, y ≠ 112) : cutH Y = Y.take k ∧ cutT Y = Y.drop (k + 1) := by
  obtain ⟨hk, he⟩ := List.getElem?_eq_some_iff.1 hy
  have e : Y = Y.take k ++ 112 :: Y.drop (k + 1) := by
    conv => lhs; rw [← List.take_append_drop k Y, List.drop_eq_getElem_cons hk, he]
  have := cut_app (t := Y.drop (k + 1)) h
  rwa [← e] at this
theorem rabs_in {Y : List UInt8} (h : (112 : UInt8) ∈ Y) : rabs Y = match digD 16 (cutH Y), digD 4 (rpow (cutT Y)).1 with
  | some m, some p => ofB m ((rpow (cutT Y)).2 * p)
  | _, _ => none := by
  rw [rabs, if_pos h] <;> (cases digD 16 (cutH Y) <;> cases digD 4 (rpow (cutT Y)).1 <;> rfl)
end Go.Proofs.YtckcadhjpjjmjaaDoor
namespace Go.Proofs.YtckcadhjpjjmjaaDoor
open Go.RowKit
set_option maxRecDepth 100000 in
set_option maxHeartbeats 6400000 in
theorem c_rparse_n0 (r : List UInt8) (w : World) (hx : (45 :: r).length ≤ 1000000) (hv : (112 : UInt8) ∉ r) :
    Calls Tryd.prog 44 #[.string (txt (45 :: r))] w fun e w' => ParR (45 :: r) e ∧ Below w.heap.size w w' := by
  have HN : Hid (rabs r = none) := hide (by rw [rabs, if_neg hv])
  have HV := hide hv
  clear hv
  have HX := hide hx
  clear hx
  have HZ0 : Hid ((w.alloc (.cells spC 31)).heap[w.heap.size]? = some (.cells spC 31)) := hide (heap_alloc_new w _)
  have HB0 : Hid (Below w.heap.size w (w.alloc (.cells spC 31))) := hide ((Below.refl _ _).alloc (Nat.le_refl _) _)
  go_enter Tryd.func44, Tryd.ntmps44
  go_wp2_with fail
  refine (c_mcopy _).mono ?_
  rintro e w1 ⟨rfl, rfl⟩
  go_wp2_with fail
  refine (c_minf _).mono ?_
  rintro e w1 ⟨rfl, rfl⟩
  go_wp2_with fail
  refine (c_minfn _).mono ?_
  rintro e w1 ⟨rfl, rfl⟩
  go_wp2_with fail
  go_loopw [22] (fun i wr => ∃ (k : Nat), k ≤ 4 ∧ i = .int .i64 (k : Int) ∧ Hid (wr.heap[w1.heap.size]? = some (.cells spC 31)) ∧ Hid (Below w1.heap.size w1 wr) ∧ Hid (∀ j g, j < k → spW[j]? = some g → (45 :: r) ≠ ctext g)) (fun i _ => 4 - (intOf i).toNat)
  case atStart => exact ⟨0, by omega, rfl, HZ0, HB0, hide (fun j g h => absurd h (by omega))⟩
  case round =>
    clear HZ0 HB0
    obtain ⟨k, hk, rfl, HZ, HB, HJ⟩ := hrel
    by_cases hlt : k < 4
    · obtain ⟨f, hf⟩ : ∃ f, spW[k]? = some f := ⟨_, List.getElem?_eq_getElem hlt⟩
      have hij := sp_idx w1.heap.size k hlt
      have hce := sp_cell HZ.out hf
      have HF := hide hf
      have HFL := hide (sp_lt hf)
      have hlt' : (k : Int) < 4 := by omega
      clear hf
      go_wp2_with fail
      refine (c_rtext f HFL.out _).mono ?_
      rintro e w2 ⟨rfl, b2⟩
      have HB2 := hide (HB.out.trans (b2.mono HB.out.size))
      have hgl : w1.heap.size < wr.heap.size := by
        rcases Nat.lt_or_ge w1.heap.size wr.heap.size with h | h
        · exact h
        · have := HZ.out; rw [Array.getElem?_eq_none h] at this; cases this
      have HZ2 : Hid (w2.heap[w1.heap.size]? = some (.cells spC 31)) := hide (by rw [b2.block _ hgl]; exact HZ.out)
      obtain ⟨D, hD⟩ : ∃ D, ctext f = D := ⟨_, rfl⟩
      rw [hD]
      by_cases hDx : (45 :: r) = D
      · have HE : Hid (rparseB (45 :: r) = some f) := hide (rp_hit (45 :: r) k f HF.out HJ.out (by rw [hD]; exact hDx))
        have hbq : ((45 :: r) == D) = true := beq_iff_eq.2 hDx
        clear hDx hD hgl b2
        go_wp2_with fail
        exact bodyPost_ret (v := .tuple #[.float .f64 f, .bool true]) (by simp [results, Tryd.results44, go_sem]) rfl ⟨⟨f, true, rfl, HE.out, fun h => by cases h⟩, HB2.out⟩
      · have hbq : ((45 :: r) == D) = false := beq_eq_false_iff_ne.2 hDx
        have HJ2 : Hid (∀ j g, j < k + 1 → spW[j]? = some g → (45 :: r) ≠ ctext g) := hide (fun j g hj hg => by
          by_cases e : j = k
          · subst e
            rw [HF.out] at hg
            rw [← Option.some.inj hg, hD]; exact hDx
          · exact HJ.out j g (by omega) hg)
        clear hDx hD hgl b2 HJ
        go_wp2_with fail
        go_roundw
        case rel => exact ⟨k + 1, by omega, by simp, HZ2, HB2, HJ2⟩
        case measure => simp [intOf]; omega
    · obtain rfl : k = 4 := by omega
      have HR := hide (rp_miss (45 :: r) HJ.out)
      clear HJ HZ hlt hk
      have HRR : Hid (rparseB (45 :: r) = (rabs r).map (9223372036854775808 + ·)) := hide (by rw [HR.out, List.head?_cons, if_pos rfl]; rfl)
      obtain ⟨n, hn⟩ : ∃ n, r.length = n := ⟨_, rfl⟩
      have hsz1 : (txt (45 :: r)).size = n + 1 := by rw [txt_size, List.length_cons, hn]
      have hx0 := txt_byte (P := Tryd.prog) Tryd.underlying9 (show (45 :: r)[0]? = some 45 from rfl) .i64
      have hEX : (txt (45 :: r)).extract 1 (n + 1) = txt r := by rw [ext_txt, ← hn]; simp
      have HYL : Hid (r.length ≤ 1000000) := hide (by have := HX.out; rw [List.length_cons] at this; omega)
      have hrs : (txt r).size = n := by rw [txt_size, hn]
      have HL := hide hn
      clear HR hn
      go_wp2_with fail
      go_loop [8] (fun i => ∃ (k : Nat), k ≤ n ∧ i = .int .i64 (k : Int) ∧ Hid (∀ y ∈ r.take k, y ≠ 112)) (fun i => n - (intOf i).toNat)
      case atStart => exact ⟨0, Nat.zero_le _, rfl, hide (fun y hy => by simp at hy)⟩
      case round =>
        obtain ⟨k, hk, rfl, HT⟩ := hrel
        by_cases hlt : k < n
        · obtain ⟨y, hy⟩ : ∃ y, r[k]? = some y := ⟨_, List.getElem?_eq_getElem (by have := HL.out; omega)⟩
          have hix := txt_byte (P := Tryd.prog) Tryd.underlying9 hy .i64
          by_cases hp : y = 112
          · subst hp
            exact absurd (List.mem_of_getElem? hy) HV.out
          · have hp' := ne112 hp
            have hpb := nb112 hp
            have hpa := na112 hp
            have hpc := nc112 hp
            have HT2 : Hid (∀ z ∈ r.take (k + 1), z ≠ 112) := hide (fun z hz => by
              rw [List.take_add_one, hy] at hz
              rcases List.mem_append.1 hz with h | h
              · exact HT.out z h
              · have : z = y := by simpa using h
                rw [this]; exact hp)
            have hwk := wrap_k hlt (HL.out ▸ HYL.out)
            have HWK := hide hwk
            clear hp hy hwk
            go_wp2_with fail
            go_round
            case rel => exact ⟨k + 1, hlt, congrArg (Value.int .i64) (HWK.out.trans (by simp)), HT2⟩
            case measure =>
              have h9 := HWK.out
              show n - (intOf (Value.int .i64 (wrap64 ((k : Int) + 1)))).toNat < n - (intOf (Value.int .i64 (k : Int))).toNat
              rw [h9]
              exact meas_k hlt
        · obtain rfl : k = n := by omega
          go_wp2_with fail
          exact bodyPost_ret (v := .tuple #[.float .f64 0, .bool false]) (by simp [results, Tryd.results44, go_sem]) rfl ⟨⟨0, false, rfl, (by rw [HRR.out, HN.out]; rfl), fun _ => rfl⟩, HB.out⟩
set_option maxRecDepth 100000 in
set_option maxHeartbeats 6400000 in
theorem c_rparse_n1 (r : List UInt8) (w : World) (hx : (45 :: r).length ≤ 1000000) (hv : (112 : UInt8) ∈ r) (U : List UInt8) (hT : cutT r = 45 :: U) (hU0 : U ≠ []) (hU1 : U ≠ [48]) :
    Calls Tryd.prog 44 #[.string (txt (45 :: r))] w fun e w' => ParR (45 :: r) e ∧ Below w.heap.size w w' := by
  have hrn : rneg (45 :: U) = true := by
    have h1 : decide (1 < (45 :: U).length) = true := decide_eq_true (by have := List.length_pos_iff.2 hU0; rw [List.length_cons]; omega)
    have h2 : ((45 :: U : List UInt8) == [45, 48]) = false := beq_eq_false_iff_ne.2 (fun e => hU1 (List.cons.inj e).2)
    rw [rneg, h1, h2]; rfl
  have hrp : rpow (45 :: U) = (U, -1) := by rw [rpow, if_pos hrn]; rfl
  obtain ⟨H, hH⟩ : ∃ H, cutH r = H := ⟨_, rfl⟩
  have HA2 : Hid (rabs r = match digD 16 H, digD 4 U with
    | some m, some p => ofB m (-1 * p)
    | _, _ => none) := hide (by rw [rabs_in hv, hT, hrp, hH] <;> (cases digD 16 H <;> cases digD 4 U <;> rfl))
  have HV := hide hv
  have HH := hide hH
  have HTC := hide hT
  clear hv hH hT hrp hrn
  have HU0 := hide (List.length_pos_iff.2 hU0)
  have hU48 : (U == [48]) = false := beq_eq_false_iff_ne.2 hU1
  clear hU0 hU1
  have HX := hide hx
  clear hx
  have HZ0 : Hid ((w.alloc (.cells spC 31)).heap[w.heap.size]? = some (.cells spC 31)) := hide (heap_alloc_new w _)
  have HB0 : Hid (Below w.heap.size w (w.alloc (.cells spC 31))) := hide ((Below.refl _ _).alloc (Nat.le_refl _) _)
  go_enter Tryd.func44, Tryd.ntmps44
  go_wp2_with fail
  refine (c_mcopy _).mono ?_
  rintro e w1 ⟨rfl, rfl⟩
  go_wp2_with fail
  refine (c_minf _).mono ?_
  rintro e w1 ⟨rfl, rfl⟩
  go_wp2_with fail
  refine (c_minfn _).mono ?_
  rintro e w1 ⟨rfl, rfl⟩
  go_wp2_with fail
  go_loopw [22] (fun i wr => ∃ (k : Nat), k ≤ 4 ∧ i = .int .i64 (k : Int) ∧ Hid (wr.heap[w1.heap.size]? = some (.cells spC 31)) ∧ Hid (Below w1.heap.size w1 wr) ∧ Hid (∀ j g, j < k → spW[j]? = some g → (45 :: r) ≠ ctext g)) (fun i _ => 4 - (intOf i).toNat)
  case atStart => exact ⟨0, by omega, rfl, HZ0, HB0, hide (fun j g h => absurd h (by omega))⟩
  case round =>
    clear HZ0 HB0
    obtain ⟨k, hk, rfl, HZ, HB, HJ⟩ := hrel
    by_cases hlt : k < 4
    · obtain ⟨f, hf⟩ : ∃ f, spW[k]? = some f := ⟨_, List.getElem?_eq_getElem hlt⟩
      have hij := sp_idx w1.heap.size k hlt
      have hce := sp_cell HZ.out hf
      have HF := hide hf
      have HFL := hide (sp_lt hf)
      have hlt' : (k : Int) < 4 := by omega
      clear hf
      go_wp2_with fail
      refine (c_rtext f HFL.out _).mono ?_
      rintro e w2 ⟨rfl, b2⟩
      have HB2 := hide (HB.out.trans (b2.mono HB.out.size))
      have hgl : w1.heap.size < wr.heap.size := by
        rcases Nat.lt_or_ge w1.heap.size wr.heap.size with h | h
        · exact h
        · have := HZ.out; rw [Array.getElem?_eq_none h] at this; cases this
      have HZ2 : Hid (w2.heap[w1.heap.size]? = some (.cells spC 31)) := hide (by rw [b2.block _ hgl]; exact HZ.out)
      obtain ⟨D, hD⟩ : ∃ D, ctext f = D := ⟨_, rfl⟩
      rw [hD]
      by_cases hDx : (45 :: r) = D
      · have HE : Hid (rparseB (45 :: r) = some f) := hide (rp_hit (45 :: r) k f HF.out HJ.out (by rw [hD]; exact hDx))
        have hbq : ((45 :: r) == D) = true := beq_iff_eq.2 hDx
        clear hDx hD hgl b2
        go_wp2_with fail
        exact bodyPost_ret (v := .tuple #[.float .f64 f, .bool true]) (by simp [results, Tryd.results44, go_sem]) rfl ⟨⟨f, true, rfl, HE.out, fun h => by cases h⟩, HB2.out⟩
      · have hbq : ((45 :: r) == D) = false := beq_eq_false_iff_ne.2 hDx
        have HJ2 : Hid (∀ j g, j < k + 1 → spW[j]? = some g → (45 :: r) ≠ ctext g) := hide (fun j g hj hg => by
          by_cases e : j = k
          · subst e
            rw [HF.out] at hg
            rw [← Option.some.inj hg, hD]; exact hDx
          · exact HJ.out j g (by omega) hg)
        clear hDx hD hgl b2 HJ
        go_wp2_with fail
        go_roundw
        case rel => exact ⟨k + 1, by omega, by simp, HZ2, HB2, HJ2⟩
        case measure => simp [intOf]; omega
    · obtain rfl : k = 4 := by omega
      have HR := hide (rp_miss (45 :: r) HJ.out)
      clear HJ HZ hlt hk
      have HRR : Hid (rparseB (45 :: r) = (rabs r).map (9223372036854775808 + ·)) := hide (by rw [HR.out, List.head?_cons, if_pos rfl]; rfl)
      obtain ⟨n, hn⟩ : ∃ n, r.length = n := ⟨_, rfl⟩
      have hsz1 : (txt (45 :: r)).size = n + 1 := by rw [txt_size, List.length_cons, hn]
      have hx0 := txt_byte (P := Tryd.prog) Tryd.underlying9 (show (45 :: r)[0]? = some 45 from rfl) .i64
      have hEX : (txt (45 :: r)).extract 1 (n + 1) = txt r := by rw [ext_txt, ← hn]; simp
      have HYL : Hid (r.length ≤ 1000000) := hide (by have := HX.out; rw [List.length_cons] at this; omega)
      have hrs : (txt r).size = n := by rw [txt_size, hn]
      have HL := hide hn
      clear HR hn
      go_wp2_with fail
      go_loop [8] (fun i => ∃ (k : Nat), k ≤ n ∧ i = .int .i64 (k : Int) ∧ Hid (∀ y ∈ r.take k, y ≠ 112)) (fun i => n - (intOf i).toNat)
      case atStart => exact ⟨0, Nat.zero_le _, rfl, hide (fun y hy => by simp at hy)⟩
      case round =>
        obtain ⟨k, hk, rfl, HT⟩ := hrel
        by_cases hlt : k < n
        · obtain ⟨y, hy⟩ : ∃ y, r[k]? = some y := ⟨_, List.getElem?_eq_getElem (by have := HL.out; omega)⟩
          have hix := txt_byte (P := Tryd.prog) Tryd.underlying9 hy .i64
          by_cases hp : y = 112
          · subst hp
            obtain ⟨hcH, hcT⟩ := cut_at hy HT.out
            rw [HH.out] at hcH
            rw [HTC.out] at hcT
            have hTl : ((45 :: U) : List UInt8).length = n - (k + 1) := by rw [hcT, List.length_drop, HL.out]
            have HHL : Hid (H.length ≤ 1000000) := hide (by rw [hcH, List.length_take]; have := HYL.out; have := HL.out; omega)
            have hTl2 : n - (k + 1) ≤ 1000000 := sub_le (HL.out ▸ HYL.out)
            have hwk := wrap_k hlt (HL.out ▸ HYL.out)
            have hkn := le_k hlt
            have hE : (txt r).extract (k + 1) n = txt (45 :: U) := by
              rw [ext_txt, hcT, ← HL.out]; congr 1; exact List.take_of_length_le (by rw [List.length_drop]; omega)
            have hE2 : (txt r).extract ((k : Int) + 1).toNat n = txt (45 :: U) := by
              rw [nat_k]; exact hE
            have HEH : Hid ((txt r).extract 0 k = txt H) := hide (by rw [ext_txt, hcH]; simp)
            have hTs : (txt (45 :: U)).size = n - (k + 1) := by rw [txt_size, hTl]
            have HUL : Hid ((U : List UInt8).length ≤ 1000000) := hide (by rw [List.length_cons] at hTl; omega)
            have hl1 : 1 < n - (k + 1) := by rw [List.length_cons] at hTl; have := HU0.out; omega
            have hl2 := lt_i hl1
            have hi0 := txt_byte (P := Tryd.prog) Tryd.underlying9 (show (45 :: U)[0]? = some 45 from rfl) .i64
            have hEU : (txt (45 :: U)).extract 1 (n - (k + 1)) = txt U := by rw [ext_txt, ← hTl]; simp
            clear hy hcH hcT hTl hTl2 HT
            go_wp2_with fail
            rw [HEH.out]
            refine (c_rdig H 16 _ HHL.out (by decide)).mono ?_
            rintro e w2 ⟨⟨m, ok1, rfl, hd1, hm64⟩, b2⟩
            have HB2 := hide (HB.out.trans (b2.mono HB.out.size))
            have HD1 := hide hd1
            have HM64 := hide hm64
            clear b2 hd1 hm64
            go_wp2_with fail
            refine (c_rdig U 4 _ HUL.out (by decide)).mono ?_
            rintro e w3 ⟨⟨p, ok2, rfl, hd2, hp64⟩, b3⟩
            have HB3 := hide (HB2.out.trans (b3.mono HB2.out.size))
            have HD2 := hide hd2
            clear b3 hd2
            cases ok1 with
            | false =>
              have HN : Hid (rabs r = none) := hide (by rw [HA2.out, HD1.out]; rfl)
              go_wp2_with fail
              refine (c_of m _ _ HM64.out).mono ?_
              rintro e w4 ⟨⟨g, fits, rfl, hof⟩, rfl⟩
              clear hof
              go_wp2_with fail
              exact bodyPost_ret (v := .tuple #[.float .f64 0, .bool false]) (by simp [results, Tryd.results44, go_sem]) rfl ⟨⟨0, false, rfl, (by rw [HRR.out, HN.out]; rfl), fun _ => rfl⟩, HB3.out⟩
            | true =>
              cases ok2 with
              | false =>
                have HN : Hid (rabs r = none) := hide (by rw [HA2.out, HD1.out, HD2.out]; rfl)
                go_wp2_with fail
                refine (c_of m _ _ HM64.out).mono ?_
                rintro e w4 ⟨⟨g, fits, rfl, hof⟩, rfl⟩
                clear hof
                go_wp2_with fail
                exact bodyPost_ret (v := .tuple #[.float .f64 0, .bool false]) (by simp [results, Tryd.results44, go_sem]) rfl ⟨⟨0, false, rfl, (by rw [HRR.out, HN.out]; rfl), fun _ => rfl⟩, HB3.out⟩
              | true =>
                have hps := dig_small (p := p) HD2.out
                have hwp := wrap_p hps
                have hwm := wrap_pn hps
                have HA3 : Hid (rabs r = ofB m (-(p : Int))) := hide (by
                  rw [HA2.out, HD1.out, HD2.out]
                  exact congrArg (ofB m) (neg_mul1 p))
                clear hps
                go_wp2_with fail
                refine (c_of m (-(p : Int)) _ HM64.out).mono ?_
                rintro e w4 ⟨⟨g, fits, rfl, hof⟩, rfl⟩
                have HOF := hide hof
                clear hof
                cases fits with
                | false =>
                  have HN : Hid (rabs r = none) := hide (by rw [HA3.out, HOF.out]; rfl)
                  go_wp2_with fail
                  exact bodyPost_ret (v := .tuple #[.float .f64 0, .bool false]) (by simp [results, Tryd.results44, go_sem]) rfl ⟨⟨0, false, rfl, (by rw [HRR.out, HN.out]; rfl), fun _ => rfl⟩, HB3.out⟩
                | true =>
                  have HE : Hid (rparseB (45 :: r) = some (9223372036854775808 + g)) := hide (by rw [HRR.out, HA3.out, HOF.out]; rfl)
                  obtain ⟨g0, gI, -, -⟩ := of_some (b := g) HOF.out
                  have hmm : ∀ W : World, (binOp .mul 31 (.float .f64 13830554455654793216) (.float .f64 g)).run Tryd.prog W = .ok (.float .f64 (9223372036854775808 + g)) W := fun W => run_float_arith W .mul _ .f64 _ _ _ (mul_neg_one g0 gI)
                  obtain ⟨z, hz⟩ : ∃ z, 9223372036854775808 + g = z := ⟨_, rfl⟩
                  rw [hz] at HE hmm
                  clear hz g0 gI
                  go_wp2_with fail
                  exact bodyPost_ret (v := .tuple #[.float .f64 z, .bool true]) (by simp [results, Tryd.results44, go_sem]) rfl ⟨⟨z, true, rfl, HE.out, fun h => by cases h⟩, HB3.out⟩
          · have hp' := ne112 hp
            have hpb := nb112 hp
            have hpa := na112 hp
            have hpc := nc112 hp
            have HT2 : Hid (∀ z ∈ r.take (k + 1), z ≠ 112) := hide (fun z hz => by
              rw [List.take_add_one, hy] at hz
              rcases List.mem_append.1 hz with h | h
              · exact HT.out z h
              · have : z = y := by simpa using h
                rw [this]; exact hp)
            have hwk := wrap_k hlt (HL.out ▸ HYL.out)
            have HWK := hide hwk
            clear hp hy hwk
            go_wp2_with fail
            go_round
            case rel => exact ⟨k + 1, hlt, congrArg (Value.int .i64) (HWK.out.trans (by simp)), HT2⟩
            case measure =>
              have h9 := HWK.out
              show n - (intOf (Value.int .i64 (wrap64 ((k : Int) + 1)))).toNat < n - (intOf (Value.int .i64 (k : Int))).toNat
              rw [h9]
              exact meas_k hlt
        · obtain rfl : k = n := by omega
          have h2 := HT.out 112
          rw [List.take_of_length_le (Nat.le_of_eq HL.out)] at h2
          exact absurd rfl (h2 HV.out)
set_option maxRecDepth 100000 in
set_option maxHeartbeats 6400000 in
theorem c_rparse_n2 (r : List UInt8) (w : World) (hx : (45 :: r).length ≤ 1000000) (hv : (112 : UInt8) ∈ r) (T : List UInt8) (hT : cutT r = T) (hT1 : T.length ≤ 1) :
    Calls Tryd.prog 44 #[.string (txt (45 :: r))] w fun e w' => ParR (45 :: r) e ∧ Below w.heap.size w w' := by
  have hrn : rneg T = false := by rw [rneg, decide_eq_false (by omega)]; rfl
  have hrp : rpow T = (T, 1) := by rw [rpow, if_neg (by rw [hrn]; decide)]
  obtain ⟨H, hH⟩ : ∃ H, cutH r = H := ⟨_, rfl⟩
  have HA2 : Hid (rabs r = match digD 16 H, digD 4 T with
    | some m, some p => ofB m (1 * p)
    | _, _ => none) := hide (by rw [rabs_in hv, hT, hrp, hH] <;> (cases digD 16 H <;> cases digD 4 T <;> rfl))
  have HV := hide hv
  have HH := hide hH
  have HTC := hide hT
  clear hv hH hT hrp hrn
  have HT1 := hide hT1
  clear hT1
  have HX := hide hx
  clear hx
  have HZ0 : Hid ((w.alloc (.cells spC 31)).heap[w.heap.size]? = some (.cells spC 31)) := hide (heap_alloc_new w _)
  have HB0 : Hid (Below w.heap.size w (w.alloc (.cells spC 31))) := hide ((Below.refl _ _).alloc (Nat.le_refl _) _)
  go_enter Tryd.func44, Tryd.ntmps44
  go_wp2_with fail
  refine (c_mcopy _).mono ?_
  rintro e w1 ⟨rfl, rfl⟩
  go_wp2_with fail
  refine (c_minf _).mono ?_
  rintro e w1 ⟨rfl, rfl⟩
  go_wp2_with fail
  refine (c_minfn _).mono ?_
  rintro e w1 ⟨rfl, rfl⟩
  go_wp2_with fail
  go_loopw [22] (fun i wr => ∃ (k : Nat), k ≤ 4 ∧ i = .int .i64 (k : Int) ∧ Hid (wr.heap[w1.heap.size]? = some (.cells spC 31)) ∧ Hid (Below w1.heap.size w1 wr) ∧ Hid (∀ j g, j < k → spW[j]? = some g → (45 :: r) ≠ ctext g)) (fun i _ => 4 - (intOf i).toNat)
  case atStart => exact ⟨0, by omega, rfl, HZ0, HB0, hide (fun j g h => absurd h (by omega))⟩
  case round =>
    clear HZ0 HB0
    obtain ⟨k, hk, rfl, HZ, HB, HJ⟩ := hrel
    by_cases hlt : k < 4
    · obtain ⟨f, hf⟩ : ∃ f, spW[k]? = some f := ⟨_, List.getElem?_eq_getElem hlt⟩
      have hij := sp_idx w1.heap.size k hlt
      have hce := sp_cell HZ.out hf
      have HF := hide hf
      have HFL := hide (sp_lt hf)
      have hlt' : (k : Int) < 4 := by omega
      clear hf
      go_wp2_with fail
      refine (c_rtext f HFL.out _).mono ?_
      rintro e w2 ⟨rfl, b2⟩
      have HB2 := hide (HB.out.trans (b2.mono HB.out.size))
      have hgl : w1.heap.size < wr.heap.size := by
        rcases Nat.lt_or_ge w1.heap.size wr.heap.size with h | h
        · exact h
        · have := HZ.out; rw [Array.getElem?_eq_none h] at this; cases this
      have HZ2 : Hid (w2.heap[w1.heap.size]? = some (.cells spC 31)) := hide (by rw [b2.block _ hgl]; exact HZ.out)
      obtain ⟨D, hD⟩ : ∃ D, ctext f = D := ⟨_, rfl⟩
      rw [hD]
      by_cases hDx : (45 :: r) = D
      · have HE : Hid (rparseB (45 :: r) = some f) := hide (rp_hit (45 :: r) k f HF.out HJ.out (by rw [hD]; exact hDx))
        have hbq : ((45 :: r) == D) = true := beq_iff_eq.2 hDx
        clear hDx hD hgl b2
        go_wp2_with fail
        exact bodyPost_ret (v := .tuple #[.float .f64 f, .bool true]) (by simp [results, Tryd.results44, go_sem]) rfl ⟨⟨f, true, rfl, HE.out, fun h => by cases h⟩, HB2.out⟩
      · have hbq : ((45 :: r) == D) = false := beq_eq_false_iff_ne.2 hDx
        have HJ2 : Hid (∀ j g, j < k + 1 → spW[j]? = some g → (45 :: r) ≠ ctext g) := hide (fun j g hj hg => by
          by_cases e : j = k
          · subst e
            rw [HF.out] at hg
            rw [← Option.some.inj hg, hD]; exact hDx
          · exact HJ.out j g (by omega) hg)
        clear hDx hD hgl b2 HJ
        go_wp2_with fail
        go_roundw
        case rel => exact ⟨k + 1, by omega, by simp, HZ2, HB2, HJ2⟩
        case measure => simp [intOf]; omega
    · obtain rfl : k = 4 := by omega
      have HR := hide (rp_miss (45 :: r) HJ.out)
      clear HJ HZ hlt hk
      have HRR : Hid (rparseB (45 :: r) = (rabs r).map (9223372036854775808 + ·)) := hide (by rw [HR.out, List.head?_cons, if_pos rfl]; rfl)
      obtain ⟨n, hn⟩ : ∃ n, r.length = n := ⟨_, rfl⟩
      have hsz1 : (txt (45 :: r)).size = n + 1 := by rw [txt_size, List.length_cons, hn]
      have hx0 := txt_byte (P := Tryd.prog) Tryd.underlying9 (show (45 :: r)[0]? = some 45 from rfl) .i64
      have hEX : (txt (45 :: r)).extract 1 (n + 1) = txt r := by rw [ext_txt, ← hn]; simp
      have HYL : Hid (r.length ≤ 1000000) := hide (by have := HX.out; rw [List.length_cons] at this; omega)
      have hrs : (txt r).size = n := by rw [txt_size, hn]
      have HL := hide hn
      clear HR hn
      go_wp2_with fail
      go_loop [8] (fun i => ∃ (k : Nat), k ≤ n ∧ i = .int .i64 (k : Int) ∧ Hid (∀ y ∈ r.take k, y ≠ 112)) (fun i => n - (intOf i).toNat)
      case atStart => exact ⟨0, Nat.zero_le _, rfl, hide (fun y hy => by simp at hy)⟩
      case round =>
        obtain ⟨k, hk, rfl, HT⟩ := hrel
        by_cases hlt : k < n
        · obtain ⟨y, hy⟩ : ∃ y, r[k]? = some y := ⟨_, List.getElem?_eq_getElem (by have := HL.out; omega)⟩
          have hix := txt_byte (P := Tryd.prog) Tryd.underlying9 hy .i64
          by_cases hp : y = 112
          · subst hp
            obtain ⟨hcH, hcT⟩ := cut_at hy HT.out
            rw [HH.out] at hcH
            rw [HTC.out] at hcT
            have hTl : (T : List UInt8).length = n - (k + 1) := by rw [hcT, List.length_drop, HL.out]
            have HHL : Hid (H.length ≤ 1000000) := hide (by rw [hcH, List.length_take]; have := HYL.out; have := HL.out; omega)
            have hTl2 : n - (k + 1) ≤ 1000000 := sub_le (HL.out ▸ HYL.out)
            have hwk := wrap_k hlt (HL.out ▸ HYL.out)
            have hkn := le_k hlt
            have hE : (txt r).extract (k + 1) n = txt T := by
              rw [ext_txt, hcT, ← HL.out]; congr 1; exact List.take_of_length_le (by rw [List.length_drop]; omega)
            have hE2 : (txt r).extract ((k : Int) + 1).toNat n = txt T := by
              rw [nat_k]; exact hE
            have HEH : Hid ((txt r).extract 0 k = txt H) := hide (by rw [ext_txt, hcH]; simp)
            have hTs : (txt T).size = n - (k + 1) := by rw [txt_size, hTl]
            have HUL : Hid ((T : List UInt8).length ≤ 1000000) := hide (by omega)
            have hl1 : ¬ 1 < n - (k + 1) := by have := HT1.out; omega
            have hl2 := nlt_i hl1
            clear hy hcH hcT hTl hTl2 HT
            go_wp2_with fail
            rw [HEH.out]
            refine (c_rdig H 16 _ HHL.out (by decide)).mono ?_
            rintro e w2 ⟨⟨m, ok1, rfl, hd1, hm64⟩, b2⟩
            have HB2 := hide (HB.out.trans (b2.mono HB.out.size))
            have HD1 := hide hd1
            have HM64 := hide hm64
            clear b2 hd1 hm64
            go_wp2_with fail
            refine (c_rdig T 4 _ HUL.out (by decide)).mono ?_
            rintro e w3 ⟨⟨p, ok2, rfl, hd2, hp64⟩, b3⟩
            have HB3 := hide (HB2.out.trans (b3.mono HB2.out.size))
            have HD2 := hide hd2
            clear b3 hd2
            cases ok1 with
            | false =>
              have HN : Hid (rabs r = none) := hide (by rw [HA2.out, HD1.out]; rfl)
              go_wp2_with fail
              refine (c_of m _ _ HM64.out).mono ?_
              rintro e w4 ⟨⟨g, fits, rfl, hof⟩, rfl⟩
              clear hof
              go_wp2_with fail
              exact bodyPost_ret (v := .tuple #[.float .f64 0, .bool false]) (by simp [results, Tryd.results44, go_sem]) rfl ⟨⟨0, false, rfl, (by rw [HRR.out, HN.out]; rfl), fun _ => rfl⟩, HB3.out⟩
            | true =>
              cases ok2 with
              | false =>
                have HN : Hid (rabs r = none) := hide (by rw [HA2.out, HD1.out, HD2.out]; rfl)
                go_wp2_with fail
                refine (c_of m _ _ HM64.out).mono ?_
                rintro e w4 ⟨⟨g, fits, rfl, hof⟩, rfl⟩
                clear hof
                go_wp2_with fail
                exact bodyPost_ret (v := .tuple #[.float .f64 0, .bool false]) (by simp [results, Tryd.results44, go_sem]) rfl ⟨⟨0, false, rfl, (by rw [HRR.out, HN.out]; rfl), fun _ => rfl⟩, HB3.out⟩
              | true =>
                have hps := dig_small (p := p) HD2.out
                have hwp := wrap_p hps
                have hwm := wrap_pn hps
                have HA3 : Hid (rabs r = ofB m ((p : Int))) := hide (by
                  rw [HA2.out, HD1.out, HD2.out]
                  exact congrArg (ofB m) (one_mul1 p))
                clear hps
                go_wp2_with fail
                refine (c_of m ((p : Int)) _ HM64.out).mono ?_
                rintro e w4 ⟨⟨g, fits, rfl, hof⟩, rfl⟩
                have HOF := hide hof
                clear hof
                cases fits with
                | false =>
                  have HN : Hid (rabs r = none) := hide (by rw [HA3.out, HOF.out]; rfl)
                  go_wp2_with fail
                  exact bodyPost_ret (v := .tuple #[.float .f64 0, .bool false]) (by simp [results, Tryd.results44, go_sem]) rfl ⟨⟨0, false, rfl, (by rw [HRR.out, HN.out]; rfl), fun _ => rfl⟩, HB3.out⟩
                | true =>
                  have HE : Hid (rparseB (45 :: r) = some (9223372036854775808 + g)) := hide (by rw [HRR.out, HA3.out, HOF.out]; rfl)
                  obtain ⟨g0, gI, -, -⟩ := of_some (b := g) HOF.out
                  have hmm : ∀ W : World, (binOp .mul 31 (.float .f64 13830554455654793216) (.float .f64 g)).run Tryd.prog W = .ok (.float .f64 (9223372036854775808 + g)) W := fun W => run_float_arith W .mul _ .f64 _ _ _ (mul_neg_one g0 gI)
                  obtain ⟨z, hz⟩ : ∃ z, 9223372036854775808 + g = z := ⟨_, rfl⟩
                  rw [hz] at HE hmm
                  clear hz g0 gI
                  go_wp2_with fail
                  exact bodyPost_ret (v := .tuple #[.float .f64 z, .bool true]) (by simp [results, Tryd.results44, go_sem]) rfl ⟨⟨z, true, rfl, HE.out, fun h => by cases h⟩, HB3.out⟩
          · have hp' := ne112 hp
            have hpb := nb112 hp
            have hpa := na112 hp
            have hpc := nc112 hp
            have HT2 : Hid (∀ z ∈ r.take (k + 1), z ≠ 112) := hide (fun z hz => by
              rw [List.take_add_one, hy] at hz
              rcases List.mem_append.1 hz with h | h
              · exact HT.out z h
              · have : z = y := by simpa using h
                rw [this]; exact hp)
            have hwk := wrap_k hlt (HL.out ▸ HYL.out)
            have HWK := hide hwk
            clear hp hy hwk
            go_wp2_with fail
            go_round
            case rel => exact ⟨k + 1, hlt, congrArg (Value.int .i64) (HWK.out.trans (by simp)), HT2⟩
            case measure =>
              have h9 := HWK.out
              show n - (intOf (Value.int .i64 (wrap64 ((k : Int) + 1)))).toNat < n - (intOf (Value.int .i64 (k : Int))).toNat
              rw [h9]
              exact meas_k hlt
        · obtain rfl : k = n := by omega
          have h2 := HT.out 112
          rw [List.take_of_length_le (Nat.le_of_eq HL.out)] at h2
          exact absurd rfl (h2 HV.out)
set_option maxRecDepth 100000 in
set_option maxHeartbeats 6400000 in
theorem c_rparse_n3 (r : List UInt8) (w : World) (hx : (45 :: r).length ≤ 1000000) (hv : (112 : UInt8) ∈ r) (hT : cutT r = [45, 48]) :
    Calls Tryd.prog 44 #[.string (txt (45 :: r))] w fun e w' => ParR (45 :: r) e ∧ Below w.heap.size w w' := by
  have hrp : rpow [45, 48] = ([45, 48], 1) := by decide +kernel
  obtain ⟨H, hH⟩ : ∃ H, cutH r = H := ⟨_, rfl⟩
  have HA2 : Hid (rabs r = match digD 16 H, digD 4 [45, 48] with
    | some m, some p => ofB m (1 * p)
    | _, _ => none) := hide (by rw [rabs_in hv, hT, hrp, hH] <;> (cases digD 16 H <;> cases digD 4 [45, 48] <;> rfl))
  have HV := hide hv
  have HH := hide hH
  have HTC := hide hT
  clear hv hH hT hrp
  have HX := hide hx
  clear hx
  have HZ0 : Hid ((w.alloc (.cells spC 31)).heap[w.heap.size]? = some (.cells spC 31)) := hide (heap_alloc_new w _)
  have HB0 : Hid (Below w.heap.size w (w.alloc (.cells spC 31))) := hide ((Below.refl _ _).alloc (Nat.le_refl _) _)
  go_enter Tryd.func44, Tryd.ntmps44
  go_wp2_with fail
  refine (c_mcopy _).mono ?_
  rintro e w1 ⟨rfl, rfl⟩
  go_wp2_with fail
  refine (c_minf _).mono ?_
  rintro e w1 ⟨rfl, rfl⟩
  go_wp2_with fail
  refine (c_minfn _).mono ?_
  rintro e w1 ⟨rfl, rfl⟩
  go_wp2_with fail
  go_loopw [22] (fun i wr => ∃ (k : Nat), k ≤ 4 ∧ i = .int .i64 (k : Int) ∧ Hid (wr.heap[w1.heap.size]? = some (.cells spC 31)) ∧ Hid (Below w1.heap.size w1 wr) ∧ Hid (∀ j g, j < k → spW[j]? = some g → (45 :: r) ≠ ctext g)) (fun i _ => 4 - (intOf i).toNat)
  case atStart => exact ⟨0, by omega, rfl, HZ0, HB0, hide (fun j g h => absurd h (by omega))⟩
  case round =>
    clear HZ0 HB0
    obtain ⟨k, hk, rfl, HZ, HB, HJ⟩ := hrel
    by_cases hlt : k < 4
    · obtain ⟨f, hf⟩ : ∃ f, spW[k]? = some f := ⟨_, List.getElem?_eq_getElem hlt⟩
      have hij := sp_idx w1.heap.size k hlt
      have hce := sp_cell HZ.out hf
      have HF := hide hf
      have HFL := hide (sp_lt hf)
      have hlt' : (k : Int) < 4 := by omega
      clear hf
      go_wp2_with fail
      refine (c_rtext f HFL.out _).mono ?_
      rintro e w2 ⟨rfl, b2⟩
      have HB2 := hide (HB.out.trans (b2.mono HB.out.size))
      have hgl : w1.heap.size < wr.heap.size := by
        rcases Nat.lt_or_ge w1.heap.size wr.heap.size with h | h
        · exact h
        · have := HZ.out; rw [Array.getElem?_eq_none h] at this; cases this
      have HZ2 : Hid (w2.heap[w1.heap.size]? = some (.cells spC 31)) := hide (by rw [b2.block _ hgl]; exact HZ.out)
      obtain ⟨D, hD⟩ : ∃ D, ctext f = D := ⟨_, rfl⟩
      rw [hD]
      by_cases hDx : (45 :: r) = D
      · have HE : Hid (rparseB (45 :: r) = some f) := hide (rp_hit (45 :: r) k f HF.out HJ.out (by rw [hD]; exact hDx))
        have hbq : ((45 :: r) == D) = true := beq_iff_eq.2 hDx
        clear hDx hD hgl b2
        go_wp2_with fail
        exact bodyPost_ret (v := .tuple #[.float .f64 f, .bool true]) (by simp [results, Tryd.results44, go_sem]) rfl ⟨⟨f, true, rfl, HE.out, fun h => by cases h⟩, HB2.out⟩
      · have hbq : ((45 :: r) == D) = false := beq_eq_false_iff_ne.2 hDx
        have HJ2 : Hid (∀ j g, j < k + 1 → spW[j]? = some g → (45 :: r) ≠ ctext g) := hide (fun j g hj hg => by
          by_cases e : j = k
          · subst e
            rw [HF.out] at hg
            rw [← Option.some.inj hg, hD]; exact hDx
          · exact HJ.out j g (by omega) hg)
        clear hDx hD hgl b2 HJ
        go_wp2_with fail
        go_roundw
        case rel => exact ⟨k + 1, by omega, by simp, HZ2, HB2, HJ2⟩
        case measure => simp [intOf]; omega
    · obtain rfl : k = 4 := by omega
      have HR := hide (rp_miss (45 :: r) HJ.out)
      clear HJ HZ hlt hk
      have HRR : Hid (rparseB (45 :: r) = (rabs r).map (9223372036854775808 + ·)) := hide (by rw [HR.out, List.head?_cons, if_pos rfl]; rfl)
      obtain ⟨n, hn⟩ : ∃ n, r.length = n := ⟨_, rfl⟩
      have hsz1 : (txt (45 :: r)).size = n + 1 := by rw [txt_size, List.length_cons, hn]
      have hx0 := txt_byte (P := Tryd.prog) Tryd.underlying9 (show (45 :: r)[0]? = some 45 from rfl) .i64
      have hEX : (txt (45 :: r)).extract 1 (n + 1) = txt r := by rw [ext_txt, ← hn]; simp
      have HYL : Hid (r.length ≤ 1000000) := hide (by have := HX.out; rw [List.length_cons] at this; omega)
      have hrs : (txt r).size = n := by rw [txt_size, hn]
      have HL := hide hn
      clear HR hn
      go_wp2_with fail
      go_loop [8] (fun i => ∃ (k : Nat), k ≤ n ∧ i = .int .i64 (k : Int) ∧ Hid (∀ y ∈ r.take k, y ≠ 112)) (fun i => n - (intOf i).toNat)
      case atStart => exact ⟨0, Nat.zero_le _, rfl, hide (fun y hy => by simp at hy)⟩
      case round =>
        obtain ⟨k, hk, rfl, HT⟩ := hrel
        by_cases hlt : k < n
        · obtain ⟨y, hy⟩ : ∃ y, r[k]? = some y := ⟨_, List.getElem?_eq_getElem (by have := HL.out; omega)⟩
          have hix := txt_byte (P := Tryd.prog) Tryd.underlying9 hy .i64
          by_cases hp : y = 112
          · subst hp
            obtain ⟨hcH, hcT⟩ := cut_at hy HT.out
            rw [HH.out] at hcH
            rw [HTC.out] at hcT
            have hTl : ([45, 48] : List UInt8).length = n - (k + 1) := by rw [hcT, List.length_drop, HL.out]
            have HHL : Hid (H.length ≤ 1000000) := hide (by rw [hcH, List.length_take]; have := HYL.out; have := HL.out; omega)
            have hTl2 : n - (k + 1) ≤ 1000000 := sub_le (HL.out ▸ HYL.out)
            have hwk := wrap_k hlt (HL.out ▸ HYL.out)
            have hkn := le_k hlt
            have hE : (txt r).extract (k + 1) n = txt [45, 48] := by
              rw [ext_txt, hcT, ← HL.out]; congr 1; exact List.take_of_length_le (by rw [List.length_drop]; omega)
            have hE2 : (txt r).extract ((k : Int) + 1).toNat n = txt [45, 48] := by
              rw [nat_k]; exact hE
            have HEH : Hid ((txt r).extract 0 k = txt H) := hide (by rw [ext_txt, hcH]; simp)
            have hTs : (txt [45, 48]).size = n - (k + 1) := by rw [txt_size, hTl]
            have HUL : Hid (([45, 48] : List UInt8).length ≤ 1000000) := hide (by decide)
            have hl1 : 1 < n - (k + 1) := by rw [← hTl]; decide
            have hl2 := lt_i hl1
            have hi0 := txt_byte (P := Tryd.prog) Tryd.underlying9 (show ([45, 48] : List UInt8)[0]? = some 45 from rfl) .i64
            clear hy hcH hcT hTl hTl2 HT
            go_wp2_with fail
            rw [HEH.out]
            refine (c_rdig H 16 _ HHL.out (by decide)).mono ?_
            rintro e w2 ⟨⟨m, ok1, rfl, hd1, hm64⟩, b2⟩
            have HB2 := hide (HB.out.trans (b2.mono HB.out.size))
            have HD1 := hide hd1
            have HM64 := hide hm64
            clear b2 hd1 hm64
            go_wp2_with fail
            refine (c_rdig [45, 48] 4 _ HUL.out (by decide)).mono ?_
            rintro e w3 ⟨⟨p, ok2, rfl, hd2, hp64⟩, b3⟩
            have HB3 := hide (HB2.out.trans (b3.mono HB2.out.size))
            have HD2 := hide hd2
            clear b3 hd2
            cases ok1 with
            | false =>
              have HN : Hid (rabs r = none) := hide (by rw [HA2.out, HD1.out]; rfl)
              go_wp2_with fail
              refine (c_of m _ _ HM64.out).mono ?_
              rintro e w4 ⟨⟨g, fits, rfl, hof⟩, rfl⟩
              clear hof
              go_wp2_with fail
              exact bodyPost_ret (v := .tuple #[.float .f64 0, .bool false]) (by simp [results, Tryd.results44, go_sem]) rfl ⟨⟨0, false, rfl, (by rw [HRR.out, HN.out]; rfl), fun _ => rfl⟩, HB3.out⟩
            | true =>
              cases ok2 with
              | false =>
                have HN : Hid (rabs r = none) := hide (by rw [HA2.out, HD1.out, HD2.out]; rfl)
                go_wp2_with fail
                refine (c_of m _ _ HM64.out).mono ?_
                rintro e w4 ⟨⟨g, fits, rfl, hof⟩, rfl⟩
                clear hof
                go_wp2_with fail
                exact bodyPost_ret (v := .tuple #[.float .f64 0, .bool false]) (by simp [results, Tryd.results44, go_sem]) rfl ⟨⟨0, false, rfl, (by rw [HRR.out, HN.out]; rfl), fun _ => rfl⟩, HB3.out⟩
              | true =>
                have hps := dig_small (p := p) HD2.out
                have hwp := wrap_p hps
                have hwm := wrap_pn hps
                have HA3 : Hid (rabs r = ofB m ((p : Int))) := hide (by
                  rw [HA2.out, HD1.out, HD2.out]
                  exact congrArg (ofB m) (one_mul1 p))
                clear hps
                go_wp2_with fail
                refine (c_of m ((p : Int)) _ HM64.out).mono ?_
                rintro e w4 ⟨⟨g, fits, rfl, hof⟩, rfl⟩
                have HOF := hide hof
                clear hof
                cases fits with
                | false =>
                  have HN : Hid (rabs r = none) := hide (by rw [HA3.out, HOF.out]; rfl)
                  go_wp2_with fail
                  exact bodyPost_ret (v := .tuple #[.float .f64 0, .bool false]) (by simp [results, Tryd.results44, go_sem]) rfl ⟨⟨0, false, rfl, (by rw [HRR.out, HN.out]; rfl), fun _ => rfl⟩, HB3.out⟩
                | true =>
                  have HE : Hid (rparseB (45 :: r) = some (9223372036854775808 + g)) := hide (by rw [HRR.out, HA3.out, HOF.out]; rfl)
                  obtain ⟨g0, gI, -, -⟩ := of_some (b := g) HOF.out
                  have hmm : ∀ W : World, (binOp .mul 31 (.float .f64 13830554455654793216) (.float .f64 g)).run Tryd.prog W = .ok (.float .f64 (9223372036854775808 + g)) W := fun W => run_float_arith W .mul _ .f64 _ _ _ (mul_neg_one g0 gI)
                  obtain ⟨z, hz⟩ : ∃ z, 9223372036854775808 + g = z := ⟨_, rfl⟩
                  rw [hz] at HE hmm
                  clear hz g0 gI
                  go_wp2_with fail
                  exact bodyPost_ret (v := .tuple #[.float .f64 z, .bool true]) (by simp [results, Tryd.results44, go_sem]) rfl ⟨⟨z, true, rfl, HE.out, fun h => by cases h⟩, HB3.out⟩
          · have hp' := ne112 hp
            have hpb := nb112 hp
            have hpa := na112 hp
            have hpc := nc112 hp
            have HT2 : Hid (∀ z ∈ r.take (k + 1), z ≠ 112) := hide (fun z hz => by
              rw [List.take_add_one, hy] at hz
              rcases List.mem_append.1 hz with h | h
              · exact HT.out z h
              · have : z = y := by simpa using h
                rw [this]; exact hp)
            have hwk := wrap_k hlt (HL.out ▸ HYL.out)
            have HWK := hide hwk
            clear hp hy hwk
            go_wp2_with fail
            go_round
            case rel => exact ⟨k + 1, hlt, congrArg (Value.int .i64) (HWK.out.trans (by simp)), HT2⟩
            case measure =>
              have h9 := HWK.out
              show n - (intOf (Value.int .i64 (wrap64 ((k : Int) + 1)))).toNat < n - (intOf (Value.int .i64 (k : Int))).toNat
              rw [h9]
              exact meas_k hlt
        · obtain rfl : k = n := by omega
          have h2 := HT.out 112
          rw [List.take_of_length_le (Nat.le_of_eq HL.out)] at h2
          exact absurd rfl (h2 HV.out)
set_option maxRecDepth 100000 in
set_option maxHeartbeats 6400000 in
theorem c_rparse_n4 (r : List UInt8) (w : World) (hx : (45 :: r).length ≤ 1000000) (hv : (112 : UInt8) ∈ r) (T : List UInt8) (hT : cutT r = T) (hT1 : 1 < T.length) (c2 : UInt8) (hc2 : T[0]? = some c2) (hc45 : c2 ≠ 45) :
    Calls Tryd.prog 44 #[.string (txt (45 :: r))] w fun e w' => ParR (45 :: r) e ∧ Below w.heap.size w w' := by
  have hrn : rneg T = false := by
    have h1 : (T.head? == some 45) = false := beq_eq_false_iff_ne.2 (fun e => by
      rw [List.head?_eq_getElem?, hc2] at e
      exact hc45 (Option.some.inj e))
    rw [rneg, h1, Bool.and_false]; rfl
  have hrp : rpow T = (T, 1) := by rw [rpow, if_neg (by rw [hrn]; decide)]
  obtain ⟨H, hH⟩ : ∃ H, cutH r = H := ⟨_, rfl⟩
  have HA2 : Hid (rabs r = match digD 16 H, digD 4 T with
    | some m, some p => ofB m (1 * p)
    | _, _ => none) := hide (by rw [rabs_in hv, hT, hrp, hH] <;> (cases digD 16 H <;> cases digD 4 T <;> rfl))
  have HV := hide hv
  have HH := hide hH
  have HTC := hide hT
  clear hv hH hT hrp hrn
  have HT1 := hide hT1
  have hi0 := txt_b0 (P := Tryd.prog) Tryd.underlying9 hc2
  have hq45 := ne45 hc45
  clear hT1 hc2 hc45
  have HX := hide hx
  clear hx
  have HZ0 : Hid ((w.alloc (.cells spC 31)).heap[w.heap.size]? = some (.cells spC 31)) := hide (heap_alloc_new w _)
  have HB0 : Hid (Below w.heap.size w (w.alloc (.cells spC 31))) := hide ((Below.refl _ _).alloc (Nat.le_refl _) _)
  go_enter Tryd.func44, Tryd.ntmps44
  go_wp2_with fail
  refine (c_mcopy _).mono ?_
  rintro e w1 ⟨rfl, rfl⟩
  go_wp2_with fail
  refine (c_minf _).mono ?_
  rintro e w1 ⟨rfl, rfl⟩
  go_wp2_with fail
  refine (c_minfn _).mono ?_
  rintro e w1 ⟨rfl, rfl⟩
  go_wp2_with fail
  go_loopw [22] (fun i wr => ∃ (k : Nat), k ≤ 4 ∧ i = .int .i64 (k : Int) ∧ Hid (wr.heap[w1.heap.size]? = some (.cells spC 31)) ∧ Hid (Below w1.heap.size w1 wr) ∧ Hid (∀ j g, j < k → spW[j]? = some g → (45 :: r) ≠ ctext g)) (fun i _ => 4 - (intOf i).toNat)
  case atStart => exact ⟨0, by omega, rfl, HZ0, HB0, hide (fun j g h => absurd h (by omega))⟩
  case round =>
    clear HZ0 HB0
    obtain ⟨k, hk, rfl, HZ, HB, HJ⟩ := hrel
    by_cases hlt : k < 4
    · obtain ⟨f, hf⟩ : ∃ f, spW[k]? = some f := ⟨_, List.getElem?_eq_getElem hlt⟩
      have hij := sp_idx w1.heap.size k hlt
      have hce := sp_cell HZ.out hf
      have HF := hide hf
      have HFL := hide (sp_lt hf)
      have hlt' : (k : Int) < 4 := by omega
      clear hf
      go_wp2_with fail
      refine (c_rtext f HFL.out _).mono ?_
      rintro e w2 ⟨rfl, b2⟩
      have HB2 := hide (HB.out.trans (b2.mono HB.out.size))
      have hgl : w1.heap.size < wr.heap.size := by
        rcases Nat.lt_or_ge w1.heap.size wr.heap.size with h | h
        · exact h
        · have := HZ.out; rw [Array.getElem?_eq_none h] at this; cases this
      have HZ2 : Hid (w2.heap[w1.heap.size]? = some (.cells spC 31)) := hide (by rw [b2.block _ hgl]; exact HZ.out)
      obtain ⟨D, hD⟩ : ∃ D, ctext f = D := ⟨_, rfl⟩
      rw [hD]
      by_cases hDx : (45 :: r) = D
      · have HE : Hid (rparseB (45 :: r) = some f) := hide (rp_hit (45 :: r) k f HF.out HJ.out (by rw [hD]; exact hDx))
        have hbq : ((45 :: r) == D) = true := beq_iff_eq.2 hDx
        clear hDx hD hgl b2
        go_wp2_with fail
        exact bodyPost_ret (v := .tuple #[.float .f64 f, .bool true]) (by simp [results, Tryd.results44, go_sem]) rfl ⟨⟨f, true, rfl, HE.out, fun h => by cases h⟩, HB2.out⟩
      · have hbq : ((45 :: r) == D) = false := beq_eq_false_iff_ne.2 hDx
        have HJ2 : Hid (∀ j g, j < k + 1 → spW[j]? = some g → (45 :: r) ≠ ctext g) := hide (fun j g hj hg => by
          by_cases e : j = k
          · subst e
            rw [HF.out] at hg
            rw [← Option.some.inj hg, hD]; exact hDx
          · exact HJ.out j g (by omega) hg)
        clear hDx hD hgl b2 HJ
        go_wp2_with fail
        go_roundw
        case rel => exact ⟨k + 1, by omega, by simp, HZ2, HB2, HJ2⟩
        case measure => simp [intOf]; omega
    · obtain rfl : k = 4 := by omega
      have HR := hide (rp_miss (45 :: r) HJ.out)
      clear HJ HZ hlt hk
      have HRR : Hid (rparseB (45 :: r) = (rabs r).map (9223372036854775808 + ·)) := hide (by rw [HR.out, List.head?_cons, if_pos rfl]; rfl)
      obtain ⟨n, hn⟩ : ∃ n, r.length = n := ⟨_, rfl⟩
      have hsz1 : (txt (45 :: r)).size = n + 1 := by rw [txt_size, List.length_cons, hn]
      have hx0 := txt_byte (P := Tryd.prog) Tryd.underlying9 (show (45 :: r)[0]? = some 45 from rfl) .i64
      have hEX : (txt (45 :: r)).extract 1 (n + 1) = txt r := by rw [ext_txt, ← hn]; simp
      have HYL : Hid (r.length ≤ 1000000) := hide (by have := HX.out; rw [List.length_cons] at this; omega)
      have hrs : (txt r).size = n := by rw [txt_size, hn]
      have HL := hide hn
      clear HR hn
      go_wp2_with fail
      go_loop [8] (fun i => ∃ (k : Nat), k ≤ n ∧ i = .int .i64 (k : Int) ∧ Hid (∀ y ∈ r.take k, y ≠ 112)) (fun i => n - (intOf i).toNat)
      case atStart => exact ⟨0, Nat.zero_le _, rfl, hide (fun y hy => by simp at hy)⟩
      case round =>
        obtain ⟨k, hk, rfl, HT⟩ := hrel
        by_cases hlt : k < n
        · obtain ⟨y, hy⟩ : ∃ y, r[k]? = some y := ⟨_, List.getElem?_eq_getElem (by have := HL.out; omega)⟩
          have hix := txt_byte (P := Tryd.prog) Tryd.underlying9 hy .i64
          by_cases hp : y = 112
          · subst hp
            obtain ⟨hcH, hcT⟩ := cut_at hy HT.out
            rw [HH.out] at hcH
            rw [HTC.out] at hcT
            have hTl : (T : List UInt8).length = n - (k + 1) := by rw [hcT, List.length_drop, HL.out]
            have HHL : Hid (H.length ≤ 1000000) := hide (by rw [hcH, List.length_take]; have := HYL.out; have := HL.out; omega)
            have hTl2 : n - (k + 1) ≤ 1000000 := sub_le (HL.out ▸ HYL.out)
            have hwk := wrap_k hlt (HL.out ▸ HYL.out)
            have hkn := le_k hlt
            have hE : (txt r).extract (k + 1) n = txt T := by
              rw [ext_txt, hcT, ← HL.out]; congr 1; exact List.take_of_length_le (by rw [List.length_drop]; omega)
            have hE2 : (txt r).extract ((k : Int) + 1).toNat n = txt T := by
              rw [nat_k]; exact hE
            have HEH : Hid ((txt r).extract 0 k = txt H) := hide (by rw [ext_txt, hcH]; simp)
            have hTs : (txt T).size = n - (k + 1) := by rw [txt_size, hTl]
            have HUL : Hid ((T : List UInt8).length ≤ 1000000) := hide (by omega)
            have hl1 : 1 < n - (k + 1) := by have := HT1.out; omega
            have hl2 := lt_i hl1
            clear hy hcH hcT hTl hTl2 HT
            go_wp2_with fail
            rw [HEH.out]
            refine (c_rdig H 16 _ HHL.out (by decide)).mono ?_
            rintro e w2 ⟨⟨m, ok1, rfl, hd1, hm64⟩, b2⟩
            have HB2 := hide (HB.out.trans (b2.mono HB.out.size))
            have HD1 := hide hd1
            have HM64 := hide hm64
            clear b2 hd1 hm64
            go_wp2_with fail
            refine (c_rdig T 4 _ HUL.out (by decide)).mono ?_
            rintro e w3 ⟨⟨p, ok2, rfl, hd2, hp64⟩, b3⟩
            have HB3 := hide (HB2.out.trans (b3.mono HB2.out.size))
            have HD2 := hide hd2
            clear b3 hd2
            cases ok1 with
            | false =>
              have HN : Hid (rabs r = none) := hide (by rw [HA2.out, HD1.out]; rfl)
              go_wp2_with fail
              refine (c_of m _ _ HM64.out).mono ?_
              rintro e w4 ⟨⟨g, fits, rfl, hof⟩, rfl⟩
              clear hof
              go_wp2_with fail
              exact bodyPost_ret (v := .tuple #[.float .f64 0, .bool false]) (by simp [results, Tryd.results44, go_sem]) rfl ⟨⟨0, false, rfl, (by rw [HRR.out, HN.out]; rfl), fun _ => rfl⟩, HB3.out⟩
            | true =>
              cases ok2 with
              | false =>
                have HN : Hid (rabs r = none) := hide (by rw [HA2.out, HD1.out, HD2.out]; rfl)
                go_wp2_with fail
                refine (c_of m _ _ HM64.out).mono ?_
                rintro e w4 ⟨⟨g, fits, rfl, hof⟩, rfl⟩
                clear hof
                go_wp2_with fail
                exact bodyPost_ret (v := .tuple #[.float .f64 0, .bool false]) (by simp [results, Tryd.results44, go_sem]) rfl ⟨⟨0, false, rfl, (by rw [HRR.out, HN.out]; rfl), fun _ => rfl⟩, HB3.out⟩
              | true =>
                have hps := dig_small (p := p) HD2.out
                have hwp := wrap_p hps
                have hwm := wrap_pn hps
                have HA3 : Hid (rabs r = ofB m ((p : Int))) := hide (by
                  rw [HA2.out, HD1.out, HD2.out]
                  exact congrArg (ofB m) (one_mul1 p))
                clear hps
                go_wp2_with fail
                refine (c_of m ((p : Int)) _ HM64.out).mono ?_
                rintro e w4 ⟨⟨g, fits, rfl, hof⟩, rfl⟩
                have HOF := hide hof
                clear hof
                cases fits with
                | false =>
                  have HN : Hid (rabs r = none) := hide (by rw [HA3.out, HOF.out]; rfl)
                  go_wp2_with fail
                  exact bodyPost_ret (v := .tuple #[.float .f64 0, .bool false]) (by simp [results, Tryd.results44, go_sem]) rfl ⟨⟨0, false, rfl, (by rw [HRR.out, HN.out]; rfl), fun _ => rfl⟩, HB3.out⟩
                | true =>
                  have HE : Hid (rparseB (45 :: r) = some (9223372036854775808 + g)) := hide (by rw [HRR.out, HA3.out, HOF.out]; rfl)
                  obtain ⟨g0, gI, -, -⟩ := of_some (b := g) HOF.out
                  have hmm : ∀ W : World, (binOp .mul 31 (.float .f64 13830554455654793216) (.float .f64 g)).run Tryd.prog W = .ok (.float .f64 (9223372036854775808 + g)) W := fun W => run_float_arith W .mul _ .f64 _ _ _ (mul_neg_one g0 gI)
                  obtain ⟨z, hz⟩ : ∃ z, 9223372036854775808 + g = z := ⟨_, rfl⟩
                  rw [hz] at HE hmm
                  clear hz g0 gI
                  go_wp2_with fail
                  exact bodyPost_ret (v := .tuple #[.float .f64 z, .bool true]) (by simp [results, Tryd.results44, go_sem]) rfl ⟨⟨z, true, rfl, HE.out, fun h => by cases h⟩, HB3.out⟩
          · have hp' := ne112 hp
            have hpb := nb112 hp
            have hpa := na112 hp
            have hpc := nc112 hp
            have HT2 : Hid (∀ z ∈ r.take (k + 1), z ≠ 112) := hide (fun z hz => by
              rw [List.take_add_one, hy] at hz
              rcases List.mem_append.1 hz with h | h
              · exact HT.out z h
              · have : z = y := by simpa using h
                rw [this]; exact hp)
            have hwk := wrap_k hlt (HL.out ▸ HYL.out)
            have HWK := hide hwk
            clear hp hy hwk
            go_wp2_with fail
            go_round
            case rel => exact ⟨k + 1, hlt, congrArg (Value.int .i64) (HWK.out.trans (by simp)), HT2⟩
            case measure =>
              have h9 := HWK.out
              show n - (intOf (Value.int .i64 (wrap64 ((k : Int) + 1)))).toNat < n - (intOf (Value.int .i64 (k : Int))).toNat
              rw [h9]
              exact meas_k hlt
        · obtain rfl : k = n := by omega
          have h2 := HT.out 112
          rw [List.take_of_length_le (Nat.le_of_eq HL.out)] at h2
          exact absurd rfl (h2 HV.out)
end Go.Proofs.YtckcadhjpjjmjaaDoor
namespace Go.Proofs.YtckcadhjpjjmjaaDoor
open Go.RowKit
set_option maxRecDepth 100000 in
set_option maxHeartbeats 6400000 in
theorem c_rparse_p0 (x : List UInt8) (w : World) (hx : x.length ≤ 1000000) (c : UInt8) (hc : x[0]? = some c) (hcc : c ≠ 45) (hv : (112 : UInt8) ∉ x) :
    Calls Tryd.prog 44 #[.string (txt x)] w fun e w' => ParR x e ∧ Below w.heap.size w w' := by
  have HN : Hid (rabs x = none) := hide (by rw [rabs, if_neg hv])
  have HV := hide hv
  clear hv
  have HX := hide hx
  clear hx
  have HC := hide hc
  have hc45x := ne45 hcc
  clear hc
  have HZ0 : Hid ((w.alloc (.cells spC 31)).heap[w.heap.size]? = some (.cells spC 31)) := hide (heap_alloc_new w _)
  have HB0 : Hid (Below w.heap.size w (w.alloc (.cells spC 31))) := hide ((Below.refl _ _).alloc (Nat.le_refl _) _)
  go_enter Tryd.func44, Tryd.ntmps44
  go_wp2_with fail
  refine (c_mcopy _).mono ?_
  rintro e w1 ⟨rfl, rfl⟩
  go_wp2_with fail
  refine (c_minf _).mono ?_
  rintro e w1 ⟨rfl, rfl⟩
  go_wp2_with fail
  refine (c_minfn _).mono ?_
  rintro e w1 ⟨rfl, rfl⟩
  go_wp2_with fail
  go_loopw [22] (fun i wr => ∃ (k : Nat), k ≤ 4 ∧ i = .int .i64 (k : Int) ∧ Hid (wr.heap[w1.heap.size]? = some (.cells spC 31)) ∧ Hid (Below w1.heap.size w1 wr) ∧ Hid (∀ j g, j < k → spW[j]? = some g → x ≠ ctext g)) (fun i _ => 4 - (intOf i).toNat)
  case atStart => exact ⟨0, by omega, rfl, HZ0, HB0, hide (fun j g h => absurd h (by omega))⟩
  case round =>
    clear HZ0 HB0
    obtain ⟨k, hk, rfl, HZ, HB, HJ⟩ := hrel
    by_cases hlt : k < 4
    · obtain ⟨f, hf⟩ : ∃ f, spW[k]? = some f := ⟨_, List.getElem?_eq_getElem hlt⟩
      have hij := sp_idx w1.heap.size k hlt
      have hce := sp_cell HZ.out hf
      have HF := hide hf
      have HFL := hide (sp_lt hf)
      have hlt' : (k : Int) < 4 := by omega
      clear hf
      go_wp2_with fail
      refine (c_rtext f HFL.out _).mono ?_
      rintro e w2 ⟨rfl, b2⟩
      have HB2 := hide (HB.out.trans (b2.mono HB.out.size))
      have hgl : w1.heap.size < wr.heap.size := by
        rcases Nat.lt_or_ge w1.heap.size wr.heap.size with h | h
        · exact h
        · have := HZ.out; rw [Array.getElem?_eq_none h] at this; cases this
      have HZ2 : Hid (w2.heap[w1.heap.size]? = some (.cells spC 31)) := hide (by rw [b2.block _ hgl]; exact HZ.out)
      obtain ⟨D, hD⟩ : ∃ D, ctext f = D := ⟨_, rfl⟩
      rw [hD]
      by_cases hDx : x = D
      · have HE : Hid (rparseB x = some f) := hide (rp_hit x k f HF.out HJ.out (by rw [hD]; exact hDx))
        have hbq : (x == D) = true := beq_iff_eq.2 hDx
        clear hDx hD hgl b2
        go_wp2_with fail
        exact bodyPost_ret (v := .tuple #[.float .f64 f, .bool true]) (by simp [results, Tryd.results44, go_sem]) rfl ⟨⟨f, true, rfl, HE.out, fun h => by cases h⟩, HB2.out⟩
      · have hbq : (x == D) = false := beq_eq_false_iff_ne.2 hDx
        have HJ2 : Hid (∀ j g, j < k + 1 → spW[j]? = some g → x ≠ ctext g) := hide (fun j g hj hg => by
          by_cases e : j = k
          · subst e
            rw [HF.out] at hg
            rw [← Option.some.inj hg, hD]; exact hDx
          · exact HJ.out j g (by omega) hg)
        clear hDx hD hgl b2 HJ
        go_wp2_with fail
        go_roundw
        case rel => exact ⟨k + 1, by omega, by simp, HZ2, HB2, HJ2⟩
        case measure => simp [intOf]; omega
    · obtain rfl : k = 4 := by omega
      have HR := hide (rp_miss x HJ.out)
      clear HJ HZ hlt hk
      have HRR : Hid (rparseB x = rabs x) := hide (by rw [HR.out, if_neg (by rw [List.head?_eq_getElem?, HC.out]; exact fun e => hcc (Option.some.inj e))])
      obtain ⟨n, hn⟩ : ∃ n, x.length = n := ⟨_, rfl⟩
      have hsz1 : (txt x).size = n := by rw [txt_size, hn]
      have hn0 : (0 : Int) < (n : Int) := by have := (List.getElem?_eq_some_iff.1 HC.out).1; omega
      have hn1 : 0 < n := by omega
      have hx0 := txt_b0 (P := Tryd.prog) Tryd.underlying9 HC.out
      have HYL := hide HX.out
      have HL := hide hn
      clear HR hn
      go_wp2_with fail
      go_loop [8] (fun i => ∃ (k : Nat), k ≤ n ∧ i = .int .i64 (k : Int) ∧ Hid (∀ y ∈ x.take k, y ≠ 112)) (fun i => n - (intOf i).toNat)
      case atStart => exact ⟨0, Nat.zero_le _, rfl, hide (fun y hy => by simp at hy)⟩
      case round =>
        obtain ⟨k, hk, rfl, HT⟩ := hrel
        by_cases hlt : k < n
        · obtain ⟨y, hy⟩ : ∃ y, x[k]? = some y := ⟨_, List.getElem?_eq_getElem (by have := HL.out; omega)⟩
          have hix := txt_byte (P := Tryd.prog) Tryd.underlying9 hy .i64
          by_cases hp : y = 112
          · subst hp
            exact absurd (List.mem_of_getElem? hy) HV.out
          · have hp' := ne112 hp
            have hpb := nb112 hp
            have hpa := na112 hp
            have hpc := nc112 hp
            have HT2 : Hid (∀ z ∈ x.take (k + 1), z ≠ 112) := hide (fun z hz => by
              rw [List.take_add_one, hy] at hz
              rcases List.mem_append.1 hz with h | h
              · exact HT.out z h
              · have : z = y := by simpa using h
                rw [this]; exact hp)
            have hwk := wrap_k hlt (HL.out ▸ HYL.out)
            have HWK := hide hwk
            clear hp hy hwk
            go_wp2_with fail
            go_round
            case rel => exact ⟨k + 1, hlt, congrArg (Value.int .i64) (HWK.out.trans (by simp)), HT2⟩
            case measure =>
              have h9 := HWK.out
              show n - (intOf (Value.int .i64 (wrap64 ((k : Int) + 1)))).toNat < n - (intOf (Value.int .i64 (k : Int))).toNat
              rw [h9]
              exact meas_k hlt
        · obtain rfl : k = n := by omega
          go_wp2_with fail
          exact bodyPost_ret (v := .tuple #[.float .f64 0, .bool false]) (by simp [results, Tryd.results44, go_sem]) rfl ⟨⟨0, false, rfl, (by rw [HRR.out, HN.out]; rfl), fun _ => rfl⟩, HB.out⟩
set_option maxRecDepth 100000 in
set_option maxHeartbeats 6400000 in
theorem c_rparse_p1 (x : List UInt8) (w : World) (hx : x.length ≤ 1000000) (c : UInt8) (hc : x[0]? = some c) (hcc : c ≠ 45) (hv : (112 : UInt8) ∈ x) (U : List UInt8) (hT : cutT x = 45 :: U) (hU0 : U ≠ []) (hU1 : U ≠ [48]) :
    Calls Tryd.prog 44 #[.string (txt x)] w fun e w' => ParR x e ∧ Below w.heap.size w w' := by
  have hrn : rneg (45 :: U) = true := by
    have h1 : decide (1 < (45 :: U).length) = true := decide_eq_true (by have := List.length_pos_iff.2 hU0; rw [List.length_cons]; omega)
    have h2 : ((45 :: U : List UInt8) == [45, 48]) = false := beq_eq_false_iff_ne.2 (fun e => hU1 (List.cons.inj e).2)
    rw [rneg, h1, h2]; rfl
  have hrp : rpow (45 :: U) = (U, -1) := by rw [rpow, if_pos hrn]; rfl
  obtain ⟨H, hH⟩ : ∃ H, cutH x = H := ⟨_, rfl⟩
  have HA2 : Hid (rabs x = match digD 16 H, digD 4 U with
    | some m, some p => ofB m (-1 * p)
    | _, _ => none) := hide (by rw [rabs_in hv, hT, hrp, hH] <;> (cases digD 16 H <;> cases digD 4 U <;> rfl))
  have HV := hide hv
  have HH := hide hH
  have HTC := hide hT
  clear hv hH hT hrp hrn
  have HU0 := hide (List.length_pos_iff.2 hU0)
  have hU48 : (U == [48]) = false := beq_eq_false_iff_ne.2 hU1
  clear hU0 hU1
  have HX := hide hx
  clear hx
  have HC := hide hc
  have hc45x := ne45 hcc
  clear hc
  have HZ0 : Hid ((w.alloc (.cells spC 31)).heap[w.heap.size]? = some (.cells spC 31)) := hide (heap_alloc_new w _)
  have HB0 : Hid (Below w.heap.size w (w.alloc (.cells spC 31))) := hide ((Below.refl _ _).alloc (Nat.le_refl _) _)
  go_enter Tryd.func44, Tryd.ntmps44
  go_wp2_with fail
  refine (c_mcopy _).mono ?_
  rintro e w1 ⟨rfl, rfl⟩
  go_wp2_with fail
  refine (c_minf _).mono ?_
  rintro e w1 ⟨rfl, rfl⟩
  go_wp2_with fail
  refine (c_minfn _).mono ?_
  rintro e w1 ⟨rfl, rfl⟩
  go_wp2_with fail
  go_loopw [22] (fun i wr => ∃ (k : Nat), k ≤ 4 ∧ i = .int .i64 (k : Int) ∧ Hid (wr.heap[w1.heap.size]? = some (.cells spC 31)) ∧ Hid (Below w1.heap.size w1 wr) ∧ Hid (∀ j g, j < k → spW[j]? = some g → x ≠ ctext g)) (fun i _ => 4 - (intOf i).toNat)
  case atStart => exact ⟨0, by omega, rfl, HZ0, HB0, hide (fun j g h => absurd h (by omega))⟩
  case round =>
    clear HZ0 HB0
    obtain ⟨k, hk, rfl, HZ, HB, HJ⟩ := hrel
    by_cases hlt : k < 4
    · obtain ⟨f, hf⟩ : ∃ f, spW[k]? = some f := ⟨_, List.getElem?_eq_getElem hlt⟩
      have hij := sp_idx w1.heap.size k hlt
      have hce := sp_cell HZ.out hf
      have HF := hide hf
      have HFL := hide (sp_lt hf)
      have hlt' : (k : Int) < 4 := by omega
      clear hf
      go_wp2_with fail
      refine (c_rtext f HFL.out _).mono ?_
      rintro e w2 ⟨rfl, b2⟩
      have HB2 := hide (HB.out.trans (b2.mono HB.out.size))
      have hgl : w1.heap.size < wr.heap.size := by
        rcases Nat.lt_or_ge w1.heap.size wr.heap.size with h | h
        · exact h
        · have := HZ.out; rw [Array.getElem?_eq_none h] at this; cases this
      have HZ2 : Hid (w2.heap[w1.heap.size]? = some (.cells spC 31)) := hide (by rw [b2.block _ hgl]; exact HZ.out)
      obtain ⟨D, hD⟩ : ∃ D, ctext f = D := ⟨_, rfl⟩
      rw [hD]
      by_cases hDx : x = D
      · have HE : Hid (rparseB x = some f) := hide (rp_hit x k f HF.out HJ.out (by rw [hD]; exact hDx))
        have hbq : (x == D) = true := beq_iff_eq.2 hDx
        clear hDx hD hgl b2
        go_wp2_with fail
        exact bodyPost_ret (v := .tuple #[.float .f64 f, .bool true]) (by simp [results, Tryd.results44, go_sem]) rfl ⟨⟨f, true, rfl, HE.out, fun h => by cases h⟩, HB2.out⟩
      · have hbq : (x == D) = false := beq_eq_false_iff_ne.2 hDx
        have HJ2 : Hid (∀ j g, j < k + 1 → spW[j]? = some g → x ≠ ctext g) := hide (fun j g hj hg => by
          by_cases e : j = k
          · subst e
            rw [HF.out] at hg
            rw [← Option.some.inj hg, hD]; exact hDx
          · exact HJ.out j g (by omega) hg)
        clear hDx hD hgl b2 HJ
        go_wp2_with fail
        go_roundw
        case rel => exact ⟨k + 1, by omega, by simp, HZ2, HB2, HJ2⟩
        case measure => simp [intOf]; omega
    · obtain rfl : k = 4 := by omega
      have HR := hide (rp_miss x HJ.out)
      clear HJ HZ hlt hk
      have HRR : Hid (rparseB x = rabs x) := hide (by rw [HR.out, if_neg (by rw [List.head?_eq_getElem?, HC.out]; exact fun e => hcc (Option.some.inj e))])
      obtain ⟨n, hn⟩ : ∃ n, x.length = n := ⟨_, rfl⟩
      have hsz1 : (txt x).size = n := by rw [txt_size, hn]
      have hn0 : (0 : Int) < (n : Int) := by have := (List.getElem?_eq_some_iff.1 HC.out).1; omega
      have hn1 : 0 < n := by omega
      have hx0 := txt_b0 (P := Tryd.prog) Tryd.underlying9 HC.out
      have HYL := hide HX.out
      have HL := hide hn
      clear HR hn
      go_wp2_with fail
      go_loop [8] (fun i => ∃ (k : Nat), k ≤ n ∧ i = .int .i64 (k : Int) ∧ Hid (∀ y ∈ x.take k, y ≠ 112)) (fun i => n - (intOf i).toNat)
      case atStart => exact ⟨0, Nat.zero_le _, rfl, hide (fun y hy => by simp at hy)⟩
      case round =>
        obtain ⟨k, hk, rfl, HT⟩ := hrel
        by_cases hlt : k < n
        · obtain ⟨y, hy⟩ : ∃ y, x[k]? = some y := ⟨_, List.getElem?_eq_getElem (by have := HL.out; omega)⟩
          have hix := txt_byte (P := Tryd.prog) Tryd.underlying9 hy .i64
          by_cases hp : y = 112
          · subst hp
            obtain ⟨hcH, hcT⟩ := cut_at hy HT.out
            rw [HH.out] at hcH
            rw [HTC.out] at hcT
            have hTl : ((45 :: U) : List UInt8).length = n - (k + 1) := by rw [hcT, List.length_drop, HL.out]
            have HHL : Hid (H.length ≤ 1000000) := hide (by rw [hcH, List.length_take]; have := HYL.out; have := HL.out; omega)
            have hTl2 : n - (k + 1) ≤ 1000000 := sub_le (HL.out ▸ HYL.out)
            have hwk := wrap_k hlt (HL.out ▸ HYL.out)
            have hkn := le_k hlt
            have hE : (txt x).extract (k + 1) n = txt (45 :: U) := by
              rw [ext_txt, hcT, ← HL.out]; congr 1; exact List.take_of_length_le (by rw [List.length_drop]; omega)
            have hE2 : (txt x).extract ((k : Int) + 1).toNat n = txt (45 :: U) := by
              rw [nat_k]; exact hE
            have HEH : Hid ((txt x).extract 0 k = txt H) := hide (by rw [ext_txt, hcH]; simp)
            have hTs : (txt (45 :: U)).size = n - (k + 1) := by rw [txt_size, hTl]
            have HUL : Hid ((U : List UInt8).length ≤ 1000000) := hide (by rw [List.length_cons] at hTl; omega)
            have hl1 : 1 < n - (k + 1) := by rw [List.length_cons] at hTl; have := HU0.out; omega
            have hl2 := lt_i hl1
            have hi0 := txt_byte (P := Tryd.prog) Tryd.underlying9 (show (45 :: U)[0]? = some 45 from rfl) .i64
            have hEU : (txt (45 :: U)).extract 1 (n - (k + 1)) = txt U := by rw [ext_txt, ← hTl]; simp
            clear hy hcH hcT hTl hTl2 HT
            go_wp2_with fail
            rw [HEH.out]
            refine (c_rdig H 16 _ HHL.out (by decide)).mono ?_
            rintro e w2 ⟨⟨m, ok1, rfl, hd1, hm64⟩, b2⟩
            have HB2 := hide (HB.out.trans (b2.mono HB.out.size))
            have HD1 := hide hd1
            have HM64 := hide hm64
            clear b2 hd1 hm64
            go_wp2_with fail
            refine (c_rdig U 4 _ HUL.out (by decide)).mono ?_
            rintro e w3 ⟨⟨p, ok2, rfl, hd2, hp64⟩, b3⟩
            have HB3 := hide (HB2.out.trans (b3.mono HB2.out.size))
            have HD2 := hide hd2
            clear b3 hd2
            cases ok1 with
            | false =>
              have HN : Hid (rabs x = none) := hide (by rw [HA2.out, HD1.out]; rfl)
              go_wp2_with fail
              refine (c_of m _ _ HM64.out).mono ?_
              rintro e w4 ⟨⟨g, fits, rfl, hof⟩, rfl⟩
              clear hof
              go_wp2_with fail
              exact bodyPost_ret (v := .tuple #[.float .f64 0, .bool false]) (by simp [results, Tryd.results44, go_sem]) rfl ⟨⟨0, false, rfl, (by rw [HRR.out, HN.out]; rfl), fun _ => rfl⟩, HB3.out⟩
            | true =>
              cases ok2 with
              | false =>
                have HN : Hid (rabs x = none) := hide (by rw [HA2.out, HD1.out, HD2.out]; rfl)
                go_wp2_with fail
                refine (c_of m _ _ HM64.out).mono ?_
                rintro e w4 ⟨⟨g, fits, rfl, hof⟩, rfl⟩
                clear hof
                go_wp2_with fail
                exact bodyPost_ret (v := .tuple #[.float .f64 0, .bool false]) (by simp [results, Tryd.results44, go_sem]) rfl ⟨⟨0, false, rfl, (by rw [HRR.out, HN.out]; rfl), fun _ => rfl⟩, HB3.out⟩
              | true =>
                have hps := dig_small (p := p) HD2.out
                have hwp := wrap_p hps
                have hwm := wrap_pn hps
                have HA3 : Hid (rabs x = ofB m (-(p : Int))) := hide (by
                  rw [HA2.out, HD1.out, HD2.out]
                  exact congrArg (ofB m) (neg_mul1 p))
                clear hps
                go_wp2_with fail
                refine (c_of m (-(p : Int)) _ HM64.out).mono ?_
                rintro e w4 ⟨⟨g, fits, rfl, hof⟩, rfl⟩
                have HOF := hide hof
                clear hof
                cases fits with
                | false =>
                  have HN : Hid (rabs x = none) := hide (by rw [HA3.out, HOF.out]; rfl)
                  go_wp2_with fail
                  exact bodyPost_ret (v := .tuple #[.float .f64 0, .bool false]) (by simp [results, Tryd.results44, go_sem]) rfl ⟨⟨0, false, rfl, (by rw [HRR.out, HN.out]; rfl), fun _ => rfl⟩, HB3.out⟩
                | true =>
                  have HE : Hid (rparseB x = some (g)) := hide (by rw [HRR.out, HA3.out, HOF.out]; rfl)
                  obtain ⟨g0, gI, -, -⟩ := of_some (b := g) HOF.out
                  have hmm : ∀ W : World, (binOp .mul 31 (.float .f64 4607182418800017408) (.float .f64 g)).run Tryd.prog W = .ok (.float .f64 (g)) W := fun W => run_float_arith W .mul _ .f64 _ _ _ (mul_one g0 gI)
                  clear g0 gI
                  go_wp2_with fail
                  exact bodyPost_ret (v := .tuple #[.float .f64 g, .bool true]) (by simp [results, Tryd.results44, go_sem]) rfl ⟨⟨g, true, rfl, HE.out, fun h => by cases h⟩, HB3.out⟩
          · have hp' := ne112 hp
            have hpb := nb112 hp
            have hpa := na112 hp
            have hpc := nc112 hp
            have HT2 : Hid (∀ z ∈ x.take (k + 1), z ≠ 112) := hide (fun z hz => by
              rw [List.take_add_one, hy] at hz
              rcases List.mem_append.1 hz with h | h
              · exact HT.out z h
              · have : z = y := by simpa using h
                rw [this]; exact hp)
            have hwk := wrap_k hlt (HL.out ▸ HYL.out)
            have HWK := hide hwk
            clear hp hy hwk
            go_wp2_with fail
            go_round
            case rel => exact ⟨k + 1, hlt, congrArg (Value.int .i64) (HWK.out.trans (by simp)), HT2⟩
            case measure =>
              have h9 := HWK.out
              show n - (intOf (Value.int .i64 (wrap64 ((k : Int) + 1)))).toNat < n - (intOf (Value.int .i64 (k : Int))).toNat
              rw [h9]
              exact meas_k hlt
        · obtain rfl : k = n := by omega
          have h2 := HT.out 112
          rw [List.take_of_length_le (Nat.le_of_eq HL.out)] at h2
          exact absurd rfl (h2 HV.out)
set_option maxRecDepth 100000 in
set_option maxHeartbeats 6400000 in
theorem c_rparse_p2 (x : List UInt8) (w : World) (hx : x.length ≤ 1000000) (c : UInt8) (hc : x[0]? = some c) (hcc : c ≠ 45) (hv : (112 : UInt8) ∈ x) (T : List UInt8) (hT : cutT x = T) (hT1 : T.length ≤ 1) :
    Calls Tryd.prog 44 #[.string (txt x)] w fun e w' => ParR x e ∧ Below w.heap.size w w' := by
  have hrn : rneg T = false := by rw [rneg, decide_eq_false (by omega)]; rfl
  have hrp : rpow T = (T, 1) := by rw [rpow, if_neg (by rw [hrn]; decide)]
  obtain ⟨H, hH⟩ : ∃ H, cutH x = H := ⟨_, rfl⟩
  have HA2 : Hid (rabs x = match digD 16 H, digD 4 T with
    | some m, some p => ofB m (1 * p)
    | _, _ => none) := hide (by rw [rabs_in hv, hT, hrp, hH] <;> (cases digD 16 H <;> cases digD 4 T <;> rfl))
  have HV := hide hv
  have HH := hide hH
  have HTC := hide hT
  clear hv hH hT hrp hrn
  have HT1 := hide hT1
  clear hT1
  have HX := hide hx
  clear hx
  have HC := hide hc
  have hc45x := ne45 hcc
  clear hc
  have HZ0 : Hid ((w.alloc (.cells spC 31)).heap[w.heap.size]? = some (.cells spC 31)) := hide (heap_alloc_new w _)
  have HB0 : Hid (Below w.heap.size w (w.alloc (.cells spC 31))) := hide ((Below.refl _ _).alloc (Nat.le_refl _) _)
  go_enter Tryd.func44, Tryd.ntmps44
  go_wp2_with fail
  refine (c_mcopy _).mono ?_
  rintro e w1 ⟨rfl, rfl⟩
  go_wp2_with fail
  refine (c_minf _).mono ?_
  rintro e w1 ⟨rfl, rfl⟩
  go_wp2_with fail
  refine (c_minfn _).mono ?_
  rintro e w1 ⟨rfl, rfl⟩
  go_wp2_with fail
  go_loopw [22] (fun i wr => ∃ (k : Nat), k ≤ 4 ∧ i = .int .i64 (k : Int) ∧ Hid (wr.heap[w1.heap.size]? = some (.cells spC 31)) ∧ Hid (Below w1.heap.size w1 wr) ∧ Hid (∀ j g, j < k → spW[j]? = some g → x ≠ ctext g)) (fun i _ => 4 - (intOf i).toNat)
  case atStart => exact ⟨0, by omega, rfl, HZ0, HB0, hide (fun j g h => absurd h (by omega))⟩
  case round =>
    clear HZ0 HB0
    obtain ⟨k, hk, rfl, HZ, HB, HJ⟩ := hrel
    by_cases hlt : k < 4
    · obtain ⟨f, hf⟩ : ∃ f, spW[k]? = some f := ⟨_, List.getElem?_eq_getElem hlt⟩
      have hij := sp_idx w1.heap.size k hlt
      have hce := sp_cell HZ.out hf
      have HF := hide hf
      have HFL := hide (sp_lt hf)
      have hlt' : (k : Int) < 4 := by omega
      clear hf
      go_wp2_with fail
      refine (c_rtext f HFL.out _).mono ?_
      rintro e w2 ⟨rfl, b2⟩
      have HB2 := hide (HB.out.trans (b2.mono HB.out.size))
      have hgl : w1.heap.size < wr.heap.size := by
        rcases Nat.lt_or_ge w1.heap.size wr.heap.size with h | h
        · exact h
        · have := HZ.out; rw [Array.getElem?_eq_none h] at this; cases this
      have HZ2 : Hid (w2.heap[w1.heap.size]? = some (.cells spC 31)) := hide (by rw [b2.block _ hgl]; exact HZ.out)
      obtain ⟨D, hD⟩ : ∃ D, ctext f = D := ⟨_, rfl⟩
      rw [hD]
      by_cases hDx : x = D
      · have HE : Hid (rparseB x = some f) := hide (rp_hit x k f HF.out HJ.out (by rw [hD]; exact hDx))
        have hbq : (x == D) = true := beq_iff_eq.2 hDx
        clear hDx hD hgl b2
        go_wp2_with fail
        exact bodyPost_ret (v := .tuple #[.float .f64 f, .bool true]) (by simp [results, Tryd.results44, go_sem]) rfl ⟨⟨f, true, rfl, HE.out, fun h => by cases h⟩, HB2.out⟩
      · have hbq : (x == D) = false := beq_eq_false_iff_ne.2 hDx
        have HJ2 : Hid (∀ j g, j < k + 1 → spW[j]? = some g → x ≠ ctext g) := hide (fun j g hj hg => by
          by_cases e : j = k
          · subst e
            rw [HF.out] at hg
            rw [← Option.some.inj hg, hD]; exact hDx
          · exact HJ.out j g (by omega) hg)
        clear hDx hD hgl b2 HJ
        go_wp2_with fail
        go_roundw
        case rel => exact ⟨k + 1, by omega, by simp, HZ2, HB2, HJ2⟩
        case measure => simp [intOf]; omega
    · obtain rfl : k = 4 := by omega
      have HR := hide (rp_miss x HJ.out)
      clear HJ HZ hlt hk
      have HRR : Hid (rparseB x = rabs x) := hide (by rw [HR.out, if_neg (by rw [List.head?_eq_getElem?, HC.out]; exact fun e => hcc (Option.some.inj e))])
      obtain ⟨n, hn⟩ : ∃ n, x.length = n := ⟨_, rfl⟩
      have hsz1 : (txt x).size = n := by rw [txt_size, hn]
      have hn0 : (0 : Int) < (n : Int) := by have := (List.getElem?_eq_some_iff.1 HC.out).1; omega
      have hn1 : 0 < n := by omega
      have hx0 := txt_b0 (P := Tryd.prog) Tryd.underlying9 HC.out
      have HYL := hide HX.out
      have HL := hide hn
      clear HR hn
      go_wp2_with fail
      go_loop [8] (fun i => ∃ (k : Nat), k ≤ n ∧ i = .int .i64 (k : Int) ∧ Hid (∀ y ∈ x.take k, y ≠ 112)) (fun i => n - (intOf i).toNat)
      case atStart => exact ⟨0, Nat.zero_le _, rfl, hide (fun y hy => by simp at hy)⟩
      case round =>
        obtain ⟨k, hk, rfl, HT⟩ := hrel
        by_cases hlt : k < n
        · obtain ⟨y, hy⟩ : ∃ y, x[k]? = some y := ⟨_, List.getElem?_eq_getElem (by have := HL.out; omega)⟩
          have hix := txt_byte (P := Tryd.prog) Tryd.underlying9 hy .i64
          by_cases hp : y = 112
          · subst hp
            obtain ⟨hcH, hcT⟩ := cut_at hy HT.out
            rw [HH.out] at hcH
            rw [HTC.out] at hcT
            have hTl : (T : List UInt8).length = n - (k + 1) := by rw [hcT, List.length_drop, HL.out]
            have HHL : Hid (H.length ≤ 1000000) := hide (by rw [hcH, List.length_take]; have := HYL.out; have := HL.out; omega)
            have hTl2 : n - (k + 1) ≤ 1000000 := sub_le (HL.out ▸ HYL.out)
            have hwk := wrap_k hlt (HL.out ▸ HYL.out)
            have hkn := le_k hlt
            have hE : (txt x).extract (k + 1) n = txt T := by
              rw [ext_txt, hcT, ← HL.out]; congr 1; exact List.take_of_length_le (by rw [List.length_drop]; omega)
            have hE2 : (txt x).extract ((k : Int) + 1).toNat n = txt T := by
              rw [nat_k]; exact hE
            have HEH : Hid ((txt x).extract 0 k = txt H) := hide (by rw [ext_txt, hcH]; simp)
            have hTs : (txt T).size = n - (k + 1) := by rw [txt_size, hTl]
            have HUL : Hid ((T : List UInt8).length ≤ 1000000) := hide (by omega)
            have hl1 : ¬ 1 < n - (k + 1) := by have := HT1.out; omega
            have hl2 := nlt_i hl1
            clear hy hcH hcT hTl hTl2 HT
            go_wp2_with fail
            rw [HEH.out]
            refine (c_rdig H 16 _ HHL.out (by decide)).mono ?_
            rintro e w2 ⟨⟨m, ok1, rfl, hd1, hm64⟩, b2⟩
            have HB2 := hide (HB.out.trans (b2.mono HB.out.size))
            have HD1 := hide hd1
            have HM64 := hide hm64
            clear b2 hd1 hm64
            go_wp2_with fail
            refine (c_rdig T 4 _ HUL.out (by decide)).mono ?_
            rintro e w3 ⟨⟨p, ok2, rfl, hd2, hp64⟩, b3⟩
            have HB3 := hide (HB2.out.trans (b3.mono HB2.out.size))
            have HD2 := hide hd2
            clear b3 hd2
            cases ok1 with
            | false =>
              have HN : Hid (rabs x = none) := hide (by rw [HA2.out, HD1.out]; rfl)
              go_wp2_with fail
              refine (c_of m _ _ HM64.out).mono ?_
              rintro e w4 ⟨⟨g, fits, rfl, hof⟩, rfl⟩
              clear hof
              go_wp2_with fail
              exact bodyPost_ret (v := .tuple #[.float .f64 0, .bool false]) (by simp [results, Tryd.results44, go_sem]) rfl ⟨⟨0, false, rfl, (by rw [HRR.out, HN.out]; rfl), fun _ => rfl⟩, HB3.out⟩
            | true =>
              cases ok2 with
              | false =>
                have HN : Hid (rabs x = none) := hide (by rw [HA2.out, HD1.out, HD2.out]; rfl)
                go_wp2_with fail
                refine (c_of m _ _ HM64.out).mono ?_
                rintro e w4 ⟨⟨g, fits, rfl, hof⟩, rfl⟩
                clear hof
                go_wp2_with fail
                exact bodyPost_ret (v := .tuple #[.float .f64 0, .bool false]) (by simp [results, Tryd.results44, go_sem]) rfl ⟨⟨0, false, rfl, (by rw [HRR.out, HN.out]; rfl), fun _ => rfl⟩, HB3.out⟩
              | true =>
                have hps := dig_small (p := p) HD2.out
                have hwp := wrap_p hps
                have hwm := wrap_pn hps
                have HA3 : Hid (rabs x = ofB m ((p : Int))) := hide (by
                  rw [HA2.out, HD1.out, HD2.out]
                  exact congrArg (ofB m) (one_mul1 p))
                clear hps
                go_wp2_with fail
                refine (c_of m ((p : Int)) _ HM64.out).mono ?_
                rintro e w4 ⟨⟨g, fits, rfl, hof⟩, rfl⟩
                have HOF := hide hof
                clear hof
                cases fits with
                | false =>
                  have HN : Hid (rabs x = none) := hide (by rw [HA3.out, HOF.out]; rfl)
                  go_wp2_with fail
                  exact bodyPost_ret (v := .tuple #[.float .f64 0, .bool false]) (by simp [results, Tryd.results44, go_sem]) rfl ⟨⟨0, false, rfl, (by rw [HRR.out, HN.out]; rfl), fun _ => rfl⟩, HB3.out⟩
                | true =>
                  have HE : Hid (rparseB x = some (g)) := hide (by rw [HRR.out, HA3.out, HOF.out]; rfl)
                  obtain ⟨g0, gI, -, -⟩ := of_some (b := g) HOF.out
                  have hmm : ∀ W : World, (binOp .mul 31 (.float .f64 4607182418800017408) (.float .f64 g)).run Tryd.prog W = .ok (.float .f64 (g)) W := fun W => run_float_arith W .mul _ .f64 _ _ _ (mul_one g0 gI)
                  clear g0 gI
                  go_wp2_with fail
                  exact bodyPost_ret (v := .tuple #[.float .f64 g, .bool true]) (by simp [results, Tryd.results44, go_sem]) rfl ⟨⟨g, true, rfl, HE.out, fun h => by cases h⟩, HB3.out⟩
          · have hp' := ne112 hp
            have hpb := nb112 hp
            have hpa := na112 hp
            have hpc := nc112 hp
            have HT2 : Hid (∀ z ∈ x.take (k + 1), z ≠ 112) := hide (fun z hz => by
              rw [List.take_add_one, hy] at hz
              rcases List.mem_append.1 hz with h | h
              · exact HT.out z h
              · have : z = y := by simpa using h
                rw [this]; exact hp)
            have hwk := wrap_k hlt (HL.out ▸ HYL.out)
            have HWK := hide hwk
            clear hp hy hwk
            go_wp2_with fail
            go_round
            case rel => exact ⟨k + 1, hlt, congrArg (Value.int .i64) (HWK.out.trans (by simp)), HT2⟩
            case measure =>
              have h9 := HWK.out
              show n - (intOf (Value.int .i64 (wrap64 ((k : Int) + 1)))).toNat < n - (intOf (Value.int .i64 (k : Int))).toNat
              rw [h9]
              exact meas_k hlt
        · obtain rfl : k = n := by omega
          have h2 := HT.out 112
          rw [List.take_of_length_le (Nat.le_of_eq HL.out)] at h2
          exact absurd rfl (h2 HV.out)
set_option maxRecDepth 100000 in
set_option maxHeartbeats 6400000 in
theorem c_rparse_p3 (x : List UInt8) (w : World) (hx : x.length ≤ 1000000) (c : UInt8) (hc : x[0]? = some c) (hcc : c ≠ 45) (hv : (112 : UInt8) ∈ x) (hT : cutT x = [45, 48]) :
    Calls Tryd.prog 44 #[.string (txt x)] w fun e w' => ParR x e ∧ Below w.heap.size w w' := by
  have hrp : rpow [45, 48] = ([45, 48], 1) := by decide +kernel
  obtain ⟨H, hH⟩ : ∃ H, cutH x = H := ⟨_, rfl⟩
  have HA2 : Hid (rabs x = match digD 16 H, digD 4 [45, 48] with
    | some m, some p => ofB m (1 * p)
    | _, _ => none) := hide (by rw [rabs_in hv, hT, hrp, hH] <;> (cases digD 16 H <;> cases digD 4 [45, 48] <;> rfl))
  have HV := hide hv
  have HH := hide hH
  have HTC := hide hT
  clear hv hH hT hrp
  have HX := hide hx
  clear hx
  have HC := hide hc
  have hc45x := ne45 hcc
  clear hc
  have HZ0 : Hid ((w.alloc (.cells spC 31)).heap[w.heap.size]? = some (.cells spC 31)) := hide (heap_alloc_new w _)
  have HB0 : Hid (Below w.heap.size w (w.alloc (.cells spC 31))) := hide ((Below.refl _ _).alloc (Nat.le_refl _) _)
  go_enter Tryd.func44, Tryd.ntmps44
  go_wp2_with fail
  refine (c_mcopy _).mono ?_
  rintro e w1 ⟨rfl, rfl⟩
  go_wp2_with fail
  refine (c_minf _).mono ?_
  rintro e w1 ⟨rfl, rfl⟩
  go_wp2_with fail
  refine (c_minfn _).mono ?_
  rintro e w1 ⟨rfl, rfl⟩
  go_wp2_with fail
  go_loopw [22] (fun i wr => ∃ (k : Nat), k ≤ 4 ∧ i = .int .i64 (k : Int) ∧ Hid (wr.heap[w1.heap.size]? = some (.cells spC 31)) ∧ Hid (Below w1.heap.size w1 wr) ∧ Hid (∀ j g, j < k → spW[j]? = some g → x ≠ ctext g)) (fun i _ => 4 - (intOf i).toNat)
  case atStart => exact ⟨0, by omega, rfl, HZ0, HB0, hide (fun j g h => absurd h (by omega))⟩
  case round =>
    clear HZ0 HB0
    obtain ⟨k, hk, rfl, HZ, HB, HJ⟩ := hrel
    by_cases hlt : k < 4
    · obtain ⟨f, hf⟩ : ∃ f, spW[k]? = some f := ⟨_, List.getElem?_eq_getElem hlt⟩
      have hij := sp_idx w1.heap.size k hlt
      have hce := sp_cell HZ.out hf
      have HF := hide hf
      have HFL := hide (sp_lt hf)
      have hlt' : (k : Int) < 4 := by omega
      clear hf
      go_wp2_with fail
      refine (c_rtext f HFL.out _).mono ?_
      rintro e w2 ⟨rfl, b2⟩
      have HB2 := hide (HB.out.trans (b2.mono HB.out.size))
      have hgl : w1.heap.size < wr.heap.size := by
        rcases Nat.lt_or_ge w1.heap.size wr.heap.size with h | h
        · exact h
        · have := HZ.out; rw [Array.getElem?_eq_none h] at this; cases this
      have HZ2 : Hid (w2.heap[w1.heap.size]? = some (.cells spC 31)) := hide (by rw [b2.block _ hgl]; exact HZ.out)
      obtain ⟨D, hD⟩ : ∃ D, ctext f = D := ⟨_, rfl⟩
      rw [hD]
      by_cases hDx : x = D
      · have HE : Hid (rparseB x = some f) := hide (rp_hit x k f HF.out HJ.out (by rw [hD]; exact hDx))
        have hbq : (x == D) = true := beq_iff_eq.2 hDx
        clear hDx hD hgl b2
        go_wp2_with fail
        exact bodyPost_ret (v := .tuple #[.float .f64 f, .bool true]) (by simp [results, Tryd.results44, go_sem]) rfl ⟨⟨f, true, rfl, HE.out, fun h => by cases h⟩, HB2.out⟩
      · have hbq : (x == D) = false := beq_eq_false_iff_ne.2 hDx
        have HJ2 : Hid (∀ j g, j < k + 1 → spW[j]? = some g → x ≠ ctext g) := hide (fun j g hj hg => by
          by_cases e : j = k
          · subst e
            rw [HF.out] at hg
            rw [← Option.some.inj hg, hD]; exact hDx
          · exact HJ.out j g (by omega) hg)
        clear hDx hD hgl b2 HJ
        go_wp2_with fail
        go_roundw
        case rel => exact ⟨k + 1, by omega, by simp, HZ2, HB2, HJ2⟩
        case measure => simp [intOf]; omega
    · obtain rfl : k = 4 := by omega
      have HR := hide (rp_miss x HJ.out)
      clear HJ HZ hlt hk
      have HRR : Hid (rparseB x = rabs x) := hide (by rw [HR.out, if_neg (by rw [List.head?_eq_getElem?, HC.out]; exact fun e => hcc (Option.some.inj e))])
      obtain ⟨n, hn⟩ : ∃ n, x.length = n := ⟨_, rfl⟩
      have hsz1 : (txt x).size = n := by rw [txt_size, hn]
      have hn0 : (0 : Int) < (n : Int) := by have := (List.getElem?_eq_some_iff.1 HC.out).1; omega
      have hn1 : 0 < n := by omega
      have hx0 := txt_b0 (P := Tryd.prog) Tryd.underlying9 HC.out
      have HYL := hide HX.out
      have HL := hide hn
      clear HR hn
      go_wp2_with fail
      go_loop [8] (fun i => ∃ (k : Nat), k ≤ n ∧ i = .int .i64 (k : Int) ∧ Hid (∀ y ∈ x.take k, y ≠ 112)) (fun i => n - (intOf i).toNat)
      case atStart => exact ⟨0, Nat.zero_le _, rfl, hide (fun y hy => by simp at hy)⟩
      case round =>
        obtain ⟨k, hk, rfl, HT⟩ := hrel
        by_cases hlt : k < n
        · obtain ⟨y, hy⟩ : ∃ y, x[k]? = some y := ⟨_, List.getElem?_eq_getElem (by have := HL.out; omega)⟩
          have hix := txt_byte (P := Tryd.prog) Tryd.underlying9 hy .i64
          by_cases hp : y = 112
          · subst hp
            obtain ⟨hcH, hcT⟩ := cut_at hy HT.out
            rw [HH.out] at hcH
            rw [HTC.out] at hcT
            have hTl : ([45, 48] : List UInt8).length = n - (k + 1) := by rw [hcT, List.length_drop, HL.out]
            have HHL : Hid (H.length ≤ 1000000) := hide (by rw [hcH, List.length_take]; have := HYL.out; have := HL.out; omega)
            have hTl2 : n - (k + 1) ≤ 1000000 := sub_le (HL.out ▸ HYL.out)
            have hwk := wrap_k hlt (HL.out ▸ HYL.out)
            have hkn := le_k hlt
            have hE : (txt x).extract (k + 1) n = txt [45, 48] := by
              rw [ext_txt, hcT, ← HL.out]; congr 1; exact List.take_of_length_le (by rw [List.length_drop]; omega)
            have hE2 : (txt x).extract ((k : Int) + 1).toNat n = txt [45, 48] := by
              rw [nat_k]; exact hE
            have HEH : Hid ((txt x).extract 0 k = txt H) := hide (by rw [ext_txt, hcH]; simp)
            have hTs : (txt [45, 48]).size = n - (k + 1) := by rw [txt_size, hTl]
            have HUL : Hid (([45, 48] : List UInt8).length ≤ 1000000) := hide (by decide)
            have hl1 : 1 < n - (k + 1) := by rw [← hTl]; decide
            have hl2 := lt_i hl1
            have hi0 := txt_byte (P := Tryd.prog) Tryd.underlying9 (show ([45, 48] : List UInt8)[0]? = some 45 from rfl) .i64
            clear hy hcH hcT hTl hTl2 HT
            go_wp2_with fail
            rw [HEH.out]
            refine (c_rdig H 16 _ HHL.out (by decide)).mono ?_
            rintro e w2 ⟨⟨m, ok1, rfl, hd1, hm64⟩, b2⟩
            have HB2 := hide (HB.out.trans (b2.mono HB.out.size))
            have HD1 := hide hd1
            have HM64 := hide hm64
            clear b2 hd1 hm64
            go_wp2_with fail
            refine (c_rdig [45, 48] 4 _ HUL.out (by decide)).mono ?_
            rintro e w3 ⟨⟨p, ok2, rfl, hd2, hp64⟩, b3⟩
            have HB3 := hide (HB2.out.trans (b3.mono HB2.out.size))
            have HD2 := hide hd2
            clear b3 hd2
            cases ok1 with
            | false =>
              have HN : Hid (rabs x = none) := hide (by rw [HA2.out, HD1.out]; rfl)
              go_wp2_with fail
              refine (c_of m _ _ HM64.out).mono ?_
              rintro e w4 ⟨⟨g, fits, rfl, hof⟩, rfl⟩
              clear hof
              go_wp2_with fail
              exact bodyPost_ret (v := .tuple #[.float .f64 0, .bool false]) (by simp [results, Tryd.results44, go_sem]) rfl ⟨⟨0, false, rfl, (by rw [HRR.out, HN.out]; rfl), fun _ => rfl⟩, HB3.out⟩
            | true =>
              cases ok2 with
              | false =>
                have HN : Hid (rabs x = none) := hide (by rw [HA2.out, HD1.out, HD2.out]; rfl)
                go_wp2_with fail
                refine (c_of m _ _ HM64.out).mono ?_
                rintro e w4 ⟨⟨g, fits, rfl, hof⟩, rfl⟩
                clear hof
                go_wp2_with fail
                exact bodyPost_ret (v := .tuple #[.float .f64 0, .bool false]) (by simp [results, Tryd.results44, go_sem]) rfl ⟨⟨0, false, rfl, (by rw [HRR.out, HN.out]; rfl), fun _ => rfl⟩, HB3.out⟩
              | true =>
                have hps := dig_small (p := p) HD2.out
                have hwp := wrap_p hps
                have hwm := wrap_pn hps
                have HA3 : Hid (rabs x = ofB m ((p : Int))) := hide (by
                  rw [HA2.out, HD1.out, HD2.out]
                  exact congrArg (ofB m) (one_mul1 p))
                clear hps
                go_wp2_with fail
                refine (c_of m ((p : Int)) _ HM64.out).mono ?_
                rintro e w4 ⟨⟨g, fits, rfl, hof⟩, rfl⟩
                have HOF := hide hof
                clear hof
                cases fits with
                | false =>
                  have HN : Hid (rabs x = none) := hide (by rw [HA3.out, HOF.out]; rfl)
                  go_wp2_with fail
                  exact bodyPost_ret (v := .tuple #[.float .f64 0, .bool false]) (by simp [results, Tryd.results44, go_sem]) rfl ⟨⟨0, false, rfl, (by rw [HRR.out, HN.out]; rfl), fun _ => rfl⟩, HB3.out⟩
                | true =>
                  have HE : Hid (rparseB x = some (g)) := hide (by rw [HRR.out, HA3.out, HOF.out]; rfl)
                  obtain ⟨g0, gI, -, -⟩ := of_some (b := g) HOF.out
                  have hmm : ∀ W : World, (binOp .mul 31 (.float .f64 4607182418800017408) (.float .f64 g)).run Tryd.prog W = .ok (.float .f64 (g)) W := fun W => run_float_arith W .mul _ .f64 _ _ _ (mul_one g0 gI)
                  clear g0 gI
                  go_wp2_with fail
                  exact bodyPost_ret (v := .tuple #[.float .f64 g, .bool true]) (by simp [results, Tryd.results44, go_sem]) rfl ⟨⟨g, true, rfl, HE.out, fun h => by cases h⟩, HB3.out⟩
          · have hp' := ne112 hp
            have hpb := nb112 hp
            have hpa := na112 hp
            have hpc := nc112 hp
            have HT2 : Hid (∀ z ∈ x.take (k + 1), z ≠ 112) := hide (fun z hz => by
              rw [List.take_add_one, hy] at hz
              rcases List.mem_append.1 hz with h | h
              · exact HT.out z h
              · have : z = y := by simpa using h
                rw [this]; exact hp)
            have hwk := wrap_k hlt (HL.out ▸ HYL.out)
            have HWK := hide hwk
            clear hp hy hwk
            go_wp2_with fail
            go_round
            case rel => exact ⟨k + 1, hlt, congrArg (Value.int .i64) (HWK.out.trans (by simp)), HT2⟩
            case measure =>
              have h9 := HWK.out
              show n - (intOf (Value.int .i64 (wrap64 ((k : Int) + 1)))).toNat < n - (intOf (Value.int .i64 (k : Int))).toNat
              rw [h9]
              exact meas_k hlt
        · obtain rfl : k = n := by omega
          have h2 := HT.out 112
          rw [List.take_of_length_le (Nat.le_of_eq HL.out)] at h2
          exact absurd rfl (h2 HV.out)
set_option maxRecDepth 100000 in
set_option maxHeartbeats 6400000 in
theorem c_rparse_p4 (x : List UInt8) (w : World) (hx : x.length ≤ 1000000) (c : UInt8) (hc : x[0]? = some c) (hcc : c ≠ 45) (hv : (112 : UInt8) ∈ x) (T : List UInt8) (hT : cutT x = T) (hT1 : 1 < T.length) (c2 : UInt8) (hc2 : T[0]? = some c2) (hc45 : c2 ≠ 45) :
    Calls Tryd.prog 44 #[.string (txt x)] w fun e w' => ParR x e ∧ Below w.heap.size w w' := by
  have hrn : rneg T = false := by
    have h1 : (T.head? == some 45) = false := beq_eq_false_iff_ne.2 (fun e => by
      rw [List.head?_eq_getElem?, hc2] at e
      exact hc45 (Option.some.inj e))
    rw [rneg, h1, Bool.and_false]; rfl
  have hrp : rpow T = (T, 1) := by rw [rpow, if_neg (by rw [hrn]; decide)]
  obtain ⟨H, hH⟩ : ∃ H, cutH x = H := ⟨_, rfl⟩
  have HA2 : Hid (rabs x = match digD 16 H, digD 4 T with
    | some m, some p => ofB m (1 * p)
    | _, _ => none) := hide (by rw [rabs_in hv, hT, hrp, hH] <;> (cases digD 16 H <;> cases digD 4 T <;> rfl))
  have HV := hide hv
  have HH := hide hH
  have HTC := hide hT
  clear hv hH hT hrp hrn
  have HT1 := hide hT1
  have hi0 := txt_b0 (P := Tryd.prog) Tryd.underlying9 hc2
  have hq45 := ne45 hc45
  clear hT1 hc2 hc45
  have HX := hide hx
  clear hx
  have HC := hide hc
  have hc45x := ne45 hcc
  clear hc
  have HZ0 : Hid ((w.alloc (.cells spC 31)).heap[w.heap.size]? = some (.cells spC 31)) := hide (heap_alloc_new w _)
  have HB0 : Hid (Below w.heap.size w (w.alloc (.cells spC 31))) := hide ((Below.refl _ _).alloc (Nat.le_refl _) _)
  go_enter Tryd.func44, Tryd.ntmps44
  go_wp2_with fail
  refine (c_mcopy _).mono ?_
  rintro e w1 ⟨rfl, rfl⟩
  go_wp2_with fail
  refine (c_minf _).mono ?_
  rintro e w1 ⟨rfl, rfl⟩
  go_wp2_with fail
  refine (c_minfn _).mono ?_
  rintro e w1 ⟨rfl, rfl⟩
  go_wp2_with fail
  go_loopw [22] (fun i wr => ∃ (k : Nat), k ≤ 4 ∧ i = .int .i64 (k : Int) ∧ Hid (wr.heap[w1.heap.size]? = some (.cells spC 31)) ∧ Hid (Below w1.heap.size w1 wr) ∧ Hid (∀ j g, j < k → spW[j]? = some g → x ≠ ctext g)) (fun i _ => 4 - (intOf i).toNat)
  case atStart => exact ⟨0, by omega, rfl, HZ0, HB0, hide (fun j g h => absurd h (by omega))⟩
  case round =>
    clear HZ0 HB0
    obtain ⟨k, hk, rfl, HZ, HB, HJ⟩ := hrel
    by_cases hlt : k < 4
    · obtain ⟨f, hf⟩ : ∃ f, spW[k]? = some f := ⟨_, List.getElem?_eq_getElem hlt⟩
      have hij := sp_idx w1.heap.size k hlt
      have hce := sp_cell HZ.out hf
      have HF := hide hf
      have HFL := hide (sp_lt hf)
      have hlt' : (k : Int) < 4 := by omega
      clear hf
      go_wp2_with fail
      refine (c_rtext f HFL.out _).mono ?_
      rintro e w2 ⟨rfl, b2⟩
      have HB2 := hide (HB.out.trans (b2.mono HB.out.size))
      have hgl : w1.heap.size < wr.heap.size := by
        rcases Nat.lt_or_ge w1.heap.size wr.heap.size with h | h
        · exact h
        · have := HZ.out; rw [Array.getElem?_eq_none h] at this; cases this
      have HZ2 : Hid (w2.heap[w1.heap.size]? = some (.cells spC 31)) := hide (by rw [b2.block _ hgl]; exact HZ.out)
      obtain ⟨D, hD⟩ : ∃ D, ctext f = D := ⟨_, rfl⟩
      rw [hD]
      by_cases hDx : x = D
      · have HE : Hid (rparseB x = some f) := hide (rp_hit x k f HF.out HJ.out (by rw [hD]; exact hDx))
        have hbq : (x == D) = true := beq_iff_eq.2 hDx
        clear hDx hD hgl b2
        go_wp2_with fail
        exact bodyPost_ret (v := .tuple #[.float .f64 f, .bool true]) (by simp [results, Tryd.results44, go_sem]) rfl ⟨⟨f, true, rfl, HE.out, fun h => by cases h⟩, HB2.out⟩
      · have hbq : (x == D) = false := beq_eq_false_iff_ne.2 hDx
        have HJ2 : Hid (∀ j g, j < k + 1 → spW[j]? = some g → x ≠ ctext g) := hide (fun j g hj hg => by
          by_cases e : j = k
          · subst e
            rw [HF.out] at hg
            rw [← Option.some.inj hg, hD]; exact hDx
          · exact HJ.out j g (by omega) hg)
        clear hDx hD hgl b2 HJ
        go_wp2_with fail
        go_roundw
        case rel => exact ⟨k + 1, by omega, by simp, HZ2, HB2, HJ2⟩
        case measure => simp [intOf]; omega
    · obtain rfl : k = 4 := by omega
      have HR := hide (rp_miss x HJ.out)
      clear HJ HZ hlt hk
      have HRR : Hid (rparseB x = rabs x) := hide (by rw [HR.out, if_neg (by rw [List.head?_eq_getElem?, HC.out]; exact fun e => hcc (Option.some.inj e))])
      obtain ⟨n, hn⟩ : ∃ n, x.length = n := ⟨_, rfl⟩
      have hsz1 : (txt x).size = n := by rw [txt_size, hn]
      have hn0 : (0 : Int) < (n : Int) := by have := (List.getElem?_eq_some_iff.1 HC.out).1; omega
      have hn1 : 0 < n := by omega
      have hx0 := txt_b0 (P := Tryd.prog) Tryd.underlying9 HC.out
      have HYL := hide HX.out
      have HL := hide hn
      clear HR hn
      go_wp2_with fail
      go_loop [8] (fun i => ∃ (k : Nat), k ≤ n ∧ i = .int .i64 (k : Int) ∧ Hid (∀ y ∈ x.take k, y ≠ 112)) (fun i => n - (intOf i).toNat)
      case atStart => exact ⟨0, Nat.zero_le _, rfl, hide (fun y hy => by simp at hy)⟩
      case round =>
        obtain ⟨k, hk, rfl, HT⟩ := hrel
        by_cases hlt : k < n
        · obtain ⟨y, hy⟩ : ∃ y, x[k]? = some y := ⟨_, List.getElem?_eq_getElem (by have := HL.out; omega)⟩
          have hix := txt_byte (P := Tryd.prog) Tryd.underlying9 hy .i64
          by_cases hp : y = 112
          · subst hp
            obtain ⟨hcH, hcT⟩ := cut_at hy HT.out
            rw [HH.out] at hcH
            rw [HTC.out] at hcT
            have hTl : (T : List UInt8).length = n - (k + 1) := by rw [hcT, List.length_drop, HL.out]
            have HHL : Hid (H.length ≤ 1000000) := hide (by rw [hcH, List.length_take]; have := HYL.out; have := HL.out; omega)
            have hTl2 : n - (k + 1) ≤ 1000000 := sub_le (HL.out ▸ HYL.out)
            have hwk := wrap_k hlt (HL.out ▸ HYL.out)
            have hkn := le_k hlt
            have hE : (txt x).extract (k + 1) n = txt T := by
              rw [ext_txt, hcT, ← HL.out]; congr 1; exact List.take_of_length_le (by rw [List.length_drop]; omega)
            have hE2 : (txt x).extract ((k : Int) + 1).toNat n = txt T := by
              rw [nat_k]; exact hE
            have HEH : Hid ((txt x).extract 0 k = txt H) := hide (by rw [ext_txt, hcH]; simp)
            have hTs : (txt T).size = n - (k + 1) := by rw [txt_size, hTl]
            have HUL : Hid ((T : List UInt8).length ≤ 1000000) := hide (by omega)
            have hl1 : 1 < n - (k + 1) := by have := HT1.out; omega
            have hl2 := lt_i hl1
            clear hy hcH hcT hTl hTl2 HT
            go_wp2_with fail
            rw [HEH.out]
            refine (c_rdig H 16 _ HHL.out (by decide)).mono ?_
            rintro e w2 ⟨⟨m, ok1, rfl, hd1, hm64⟩, b2⟩
            have HB2 := hide (HB.out.trans (b2.mono HB.out.size))
            have HD1 := hide hd1
            have HM64 := hide hm64
            clear b2 hd1 hm64
            go_wp2_with fail
            refine (c_rdig T 4 _ HUL.out (by decide)).mono ?_
            rintro e w3 ⟨⟨p, ok2, rfl, hd2, hp64⟩, b3⟩
            have HB3 := hide (HB2.out.trans (b3.mono HB2.out.size))
            have HD2 := hide hd2
            clear b3 hd2
            cases ok1 with
            | false =>
              have HN : Hid (rabs x = none) := hide (by rw [HA2.out, HD1.out]; rfl)
              go_wp2_with fail
              refine (c_of m _ _ HM64.out).mono ?_
              rintro e w4 ⟨⟨g, fits, rfl, hof⟩, rfl⟩
              clear hof
              go_wp2_with fail
              exact bodyPost_ret (v := .tuple #[.float .f64 0, .bool false]) (by simp [results, Tryd.results44, go_sem]) rfl ⟨⟨0, false, rfl, (by rw [HRR.out, HN.out]; rfl), fun _ => rfl⟩, HB3.out⟩
            | true =>
              cases ok2 with
              | false =>
                have HN : Hid (rabs x = none) := hide (by rw [HA2.out, HD1.out, HD2.out]; rfl)
                go_wp2_with fail
                refine (c_of m _ _ HM64.out).mono ?_
                rintro e w4 ⟨⟨g, fits, rfl, hof⟩, rfl⟩
                clear hof
                go_wp2_with fail
                exact bodyPost_ret (v := .tuple #[.float .f64 0, .bool false]) (by simp [results, Tryd.results44, go_sem]) rfl ⟨⟨0, false, rfl, (by rw [HRR.out, HN.out]; rfl), fun _ => rfl⟩, HB3.out⟩
              | true =>
                have hps := dig_small (p := p) HD2.out
                have hwp := wrap_p hps
                have hwm := wrap_pn hps
                have HA3 : Hid (rabs x = ofB m ((p : Int))) := hide (by
                  rw [HA2.out, HD1.out, HD2.out]
                  exact congrArg (ofB m) (one_mul1 p))
                clear hps
                go_wp2_with fail
                refine (c_of m ((p : Int)) _ HM64.out).mono ?_
                rintro e w4 ⟨⟨g, fits, rfl, hof⟩, rfl⟩
                have HOF := hide hof
                clear hof
                cases fits with
                | false =>
                  have HN : Hid (rabs x = none) := hide (by rw [HA3.out, HOF.out]; rfl)
                  go_wp2_with fail
                  exact bodyPost_ret (v := .tuple #[.float .f64 0, .bool false]) (by simp [results, Tryd.results44, go_sem]) rfl ⟨⟨0, false, rfl, (by rw [HRR.out, HN.out]; rfl), fun _ => rfl⟩, HB3.out⟩
                | true =>
                  have HE : Hid (rparseB x = some (g)) := hide (by rw [HRR.out, HA3.out, HOF.out]; rfl)
                  obtain ⟨g0, gI, -, -⟩ := of_some (b := g) HOF.out
                  have hmm : ∀ W : World, (binOp .mul 31 (.float .f64 4607182418800017408) (.float .f64 g)).run Tryd.prog W = .ok (.float .f64 (g)) W := fun W => run_float_arith W .mul _ .f64 _ _ _ (mul_one g0 gI)
                  clear g0 gI
                  go_wp2_with fail
                  exact bodyPost_ret (v := .tuple #[.float .f64 g, .bool true]) (by simp [results, Tryd.results44, go_sem]) rfl ⟨⟨g, true, rfl, HE.out, fun h => by cases h⟩, HB3.out⟩
          · have hp' := ne112 hp
            have hpb := nb112 hp
            have hpa := na112 hp
            have hpc := nc112 hp
            have HT2 : Hid (∀ z ∈ x.take (k + 1), z ≠ 112) := hide (fun z hz => by
              rw [List.take_add_one, hy] at hz
              rcases List.mem_append.1 hz with h | h
              · exact HT.out z h
              · have : z = y := by simpa using h
                rw [this]; exact hp)
            have hwk := wrap_k hlt (HL.out ▸ HYL.out)
            have HWK := hide hwk
            clear hp hy hwk
            go_wp2_with fail
            go_round
            case rel => exact ⟨k + 1, hlt, congrArg (Value.int .i64) (HWK.out.trans (by simp)), HT2⟩
            case measure =>
              have h9 := HWK.out
              show n - (intOf (Value.int .i64 (wrap64 ((k : Int) + 1)))).toNat < n - (intOf (Value.int .i64 (k : Int))).toNat
              rw [h9]
              exact meas_k hlt
        · obtain rfl : k = n := by omega
          have h2 := HT.out 112
          rw [List.take_of_length_le (Nat.le_of_eq HL.out)] at h2
          exact absurd rfl (h2 HV.out)
set_option maxRecDepth 100000 in
set_option maxHeartbeats 1600000 in
theorem c_rparse_nil (w : World) : Calls Tryd.prog 44 #[.string (txt [])] w fun e w' => ParR [] e ∧ Below w.heap.size w w' := by
  have HX : Hid (([] : List UInt8).length ≤ 1000000) := hide (by decide)
  have HZ0 : Hid ((w.alloc (.cells spC 31)).heap[w.heap.size]? = some (.cells spC 31)) := hide (heap_alloc_new w _)
  have HB0 : Hid (Below w.heap.size w (w.alloc (.cells spC 31))) := hide ((Below.refl _ _).alloc (Nat.le_refl _) _)
  go_enter Tryd.func44, Tryd.ntmps44
  go_wp2_with fail
  refine (c_mcopy _).mono ?_
  rintro e w1 ⟨rfl, rfl⟩
  go_wp2_with fail
  refine (c_minf _).mono ?_
  rintro e w1 ⟨rfl, rfl⟩
  go_wp2_with fail
  refine (c_minfn _).mono ?_
  rintro e w1 ⟨rfl, rfl⟩
  go_wp2_with fail
  go_loopw [22] (fun i wr => ∃ (k : Nat), k ≤ 4 ∧ i = .int .i64 (k : Int) ∧ Hid (wr.heap[w1.heap.size]? = some (.cells spC 31)) ∧ Hid (Below w1.heap.size w1 wr) ∧ Hid (∀ j g, j < k → spW[j]? = some g → [] ≠ ctext g)) (fun i _ => 4 - (intOf i).toNat)
  case atStart => exact ⟨0, by omega, rfl, HZ0, HB0, hide (fun j g h => absurd h (by omega))⟩
  case round =>
    clear HZ0 HB0
    obtain ⟨k, hk, rfl, HZ, HB, HJ⟩ := hrel
    by_cases hlt : k < 4
    · obtain ⟨f, hf⟩ : ∃ f, spW[k]? = some f := ⟨_, List.getElem?_eq_getElem hlt⟩
      have hij := sp_idx w1.heap.size k hlt
      have hce := sp_cell HZ.out hf
      have HF := hide hf
      have HFL := hide (sp_lt hf)
      have hlt' : (k : Int) < 4 := by omega
      clear hf
      go_wp2_with fail
      refine (c_rtext f HFL.out _).mono ?_
      rintro e w2 ⟨rfl, b2⟩
      have HB2 := hide (HB.out.trans (b2.mono HB.out.size))
      have hgl : w1.heap.size < wr.heap.size := by
        rcases Nat.lt_or_ge w1.heap.size wr.heap.size with h | h
        · exact h
        · have := HZ.out; rw [Array.getElem?_eq_none h] at this; cases this
      have HZ2 : Hid (w2.heap[w1.heap.size]? = some (.cells spC 31)) := hide (by rw [b2.block _ hgl]; exact HZ.out)
      obtain ⟨D, hD⟩ : ∃ D, ctext f = D := ⟨_, rfl⟩
      rw [hD]
      by_cases hDx : [] = D
      · have HE : Hid (rparseB [] = some f) := hide (rp_hit [] k f HF.out HJ.out (by rw [hD]; exact hDx))
        have hbq : (([] : List UInt8) == D) = true := beq_iff_eq.2 hDx
        clear hDx hD hgl b2
        go_wp2_with fail
        exact bodyPost_ret (v := .tuple #[.float .f64 f, .bool true]) (by simp [results, Tryd.results44, go_sem]) rfl ⟨⟨f, true, rfl, HE.out, fun h => by cases h⟩, HB2.out⟩
      · have hbq : (([] : List UInt8) == D) = false := beq_eq_false_iff_ne.2 hDx
        have HJ2 : Hid (∀ j g, j < k + 1 → spW[j]? = some g → [] ≠ ctext g) := hide (fun j g hj hg => by
          by_cases e : j = k
          · subst e
            rw [HF.out] at hg
            rw [← Option.some.inj hg, hD]; exact hDx
          · exact HJ.out j g (by omega) hg)
        clear hDx hD hgl b2 HJ
        go_wp2_with fail
        go_roundw
        case rel => exact ⟨k + 1, by omega, by simp, HZ2, HB2, HJ2⟩
        case measure => simp [intOf]; omega
    · obtain rfl : k = 4 := by omega
      have HR := hide (rp_miss [] HJ.out)
      clear HJ HZ hlt hk
      have HE : Hid (rparseB [] = none) := hide (by rw [HR.out]; rfl)
      have hs0 : (txt []).size = 0 := rfl
      clear HR
      go_wp2_with fail
      go_loop [8] (fun i => i = .int .i64 0) (fun _ => 0)
      case atStart => rfl
      case round =>
        subst hrel
        go_wp2_with fail
        exact bodyPost_ret (v := .tuple #[.float .f64 0, .bool false]) (by simp [results, Tryd.results44, go_sem]) rfl ⟨⟨0, false, rfl, HE.out, fun _ => rfl⟩, HB.out⟩
/-- Of every text. -/
theorem c_rparse (x : List UInt8) (w : World) (hx : x.length ≤ 1000000) : Calls Tryd.prog 44 #[.string (txt x)] w fun e w' => ParR x e ∧ Below w.heap.size w w' := by
  have cases5 : ∀ Y : List UInt8, (112 : UInt8) ∉ Y ∨ (112 : UInt8) ∈ Y ∧ ((∃ U, cutT Y = 45 :: U ∧ U ≠ [] ∧ U ≠ [48]) ∨ (cutT Y).length ≤ 1 ∨ cutT Y = [45, 48] ∨ (1 < (cutT Y).length ∧ ∃ c2, (cutT Y)[0]? = some c2 ∧ c2 ≠ 45)) := by
    intro Y
    by_cases h : (112 : UInt8) ∈ Y
    · refine .inr ⟨h, ?_⟩
      cases hT : cutT Y with
      | nil => exact .inr (.inl (Nat.zero_le _))
      | cons c U =>
        by_cases hc : c = 45
        · subst hc
          by_cases h0 : U = []
          · exact .inr (.inl (by rw [h0]; decide))
          · by_cases h1 : U = [48]
            · exact .inr (.inr (.inl (by rw [h1])))
            · exact .inl ⟨U, rfl, h0, h1⟩
        · by_cases h0 : U = []
          · exact .inr (.inl (by rw [h0]; exact Nat.le_refl 1))
          · exact .inr (.inr (.inr ⟨by have := List.length_pos_iff.2 h0; rw [List.length_cons]; omega, c, rfl, hc⟩))
    · exact .inl h
  cases x with
  | nil => exact c_rparse_nil w
  | cons c s =>
    by_cases hc : c = 45
    · subst hc
      rcases cases5 s with h | ⟨h, ⟨U, h1, h2, h3⟩ | h1 | h1 | ⟨h1, c2, h2, h3⟩⟩
      · exact c_rparse_n0 s w hx h
      · exact c_rparse_n1 s w hx h U h1 h2 h3
      · exact c_rparse_n2 s w hx h _ rfl h1
      · exact c_rparse_n3 s w hx h h1
      · exact c_rparse_n4 s w hx h _ rfl h1 c2 h2 h3
    · rcases cases5 (c :: s) with h | ⟨h, ⟨U, h1, h2, h3⟩ | h1 | h1 | ⟨h1, c2, h2, h3⟩⟩
      · exact c_rparse_p0 (c :: s) w hx c rfl hc h
      · exact c_rparse_p1 (c :: s) w hx c rfl hc h U h1 h2 h3
      · exact c_rparse_p2 (c :: s) w hx c rfl hc h _ rfl h1
      · exact c_rparse_p3 (c :: s) w hx c rfl hc h h1
      · exact c_rparse_p4 (c :: s) w hx c rfl hc h _ rfl h1 c2 h2 h3
end Go.Proofs.YtckcadhjpjjmjaaDoor
namespace Go.Proofs.YtckcadhjpjjmjaaDoor
open Go.RowKit
/-- A number, and whichever error. -/
def PuR (n : Nat) (e : Ending) : Prop := ∃ v : Value, e = .returned (.tuple #[.int .u64 (n : Int), v])
def AtR (p : Int) (e : Ending) : Prop := ∃ v : Value, e = .returned (.tuple #[.int .i64 p, v])
theorem goU_kind (base M : Nat) : ∀ (l : List UInt8) (n : Nat), (goU base M n l).2 = 0 ∨ (goU base M n l).2 = 1 ∨ (goU base M n l).2 = 2
  | [], n => .inl rfl
  | b :: l, n => by
    unfold goU
    split
    · exact .inr (.inr rfl)
    · split
      · exact .inr (.inr rfl)
      · split
        · exact .inr (.inl rfl)
        · exact goU_kind base M l _
theorem puU_kind (base M : Nat) (x : List UInt8) : (puU base M x).2 = 0 ∨ (puU base M x).2 = 1 ∨ (puU base M x).2 = 2 := by
  unfold puU
  split
  · exact .inr (.inr rfl)
  · exact goU_kind base M x 0
set_option maxRecDepth 100000 in
set_option maxHeartbeats 1600000 in
theorem c_pu (x : List UInt8) (w : World) (hx : x.length ≤ 1000000) (hN : NumAt w) :
    Calls Tryd.prog 63 #[.string (txt x), .int .i64 10, .int .i64 53] w fun e w' => PuR (headN x) e ∧ Below w.heap.size w w' := by
  have HC := hide (c_ipu x w hx)
  have HNN := hide hN
  have hsz : (txt x).size ≤ 281474976710656 := by rw [txt_size]; omega
  have HSZ := hide hsz
  have hk := puU_kind 10 9007199254740991 x
  have hh : headN x = (puU 10 9007199254740991 x).1 := rfl
  rw [hh]
  obtain ⟨pr, hp⟩ : ∃ pr, puU 10 9007199254740991 x = pr := ⟨_, rfl⟩
  rw [hp] at HC hk ⊢
  obtain ⟨n, k⟩ := pr
  clear hx hN hsz hp hh
  rcases hk with hk | hk | hk
  · obtain rfl : k = 0 := hk
    have HC2 : Hid (Calls Tryd.prog 90 #[.string (txt x), .int .i64 10, .int .i64 53] w fun e w' => e = .returned (.tuple #[.int .u64 (n : Int), .nilIface]) ∧ Below w.heap.size w w') := hide HC.out
    clear HC
    go_enter Tryd.func63, Tryd.ntmps63
    go_wp2_with fail
    refine HC2.out.mono ?_
    rintro e w1 ⟨rfl, b1⟩
    have HB := hide b1
    clear b1
    go_wp2_with fail
    exact bodyPost_ret (v := .tuple #[.int .u64 (n : Int), .nilIface]) (by simp [results, Tryd.results63, go_sem]) rfl ⟨⟨_, rfl⟩, HB.out⟩
  · obtain rfl : k = 1 := hk
    have HC2 : Hid (Calls Tryd.prog 90 #[.string (txt x), .int .i64 10, .int .i64 53] w fun e w' => e = .returned (.tuple #[.int .u64 (n : Int), .iface 107 (.int .i64 1)]) ∧ Below w.heap.size w w') := hide HC.out
    clear HC
    go_enter Tryd.func63, Tryd.ntmps63
    go_wp2_with fail
    refine HC2.out.mono ?_
    rintro e w1 ⟨rfl, b1⟩
    have HB := hide b1
    have HN1 := hide (HNN.out.below b1)
    clear b1
    go_wp2_with fail
    obtain ⟨ev, hv, hev⟩ := HN1.out.2.2
    refine (AnyPu.strconv_toError_range (show Go.Proofs.LaysPu.n17 Tryd.prog Tryd.laysPu14_ren from { Tryd.laysPu14 with }) _ _ _ _ ev _ HSZ.out hv hev).mono ?_
    rintro e w2 ⟨N, rfl, -, -, b2⟩
    have HB2 := hide (HB.out.trans (b2.mono HB.out.size))
    clear b2 hv hev
    go_wp2_with fail
    exact bodyPost_ret (v := .tuple #[.int .u64 (n : Int), (.iface (Tryd.laysPu14_ren.t 39) (.pointer (some ⟨N, 0, none⟩)))]) (by simp [results, Tryd.results63, go_sem]) rfl ⟨⟨_, rfl⟩, HB2.out⟩
  · obtain rfl : k = 2 := hk
    have HC2 : Hid (Calls Tryd.prog 90 #[.string (txt x), .int .i64 10, .int .i64 53] w fun e w' => e = .returned (.tuple #[.int .u64 (n : Int), .iface 107 (.int .i64 2)]) ∧ Below w.heap.size w w') := hide HC.out
    clear HC
    go_enter Tryd.func63, Tryd.ntmps63
    go_wp2_with fail
    refine HC2.out.mono ?_
    rintro e w1 ⟨rfl, b1⟩
    have HB := hide b1
    have HN1 := hide (HNN.out.below b1)
    clear b1
    go_wp2_with fail
    obtain ⟨ev, hv, hev⟩ := HN1.out.2.1
    refine (AnyPu.strconv_toError_syntax (show Go.Proofs.LaysPu.n17 Tryd.prog Tryd.laysPu14_ren from { Tryd.laysPu14 with }) _ _ _ _ ev _ HSZ.out hv hev).mono ?_
    rintro e w2 ⟨N, rfl, -, -, b2⟩
    have HB2 := hide (HB.out.trans (b2.mono HB.out.size))
    clear b2 hv hev
    go_wp2_with fail
    exact bodyPost_ret (v := .tuple #[.int .u64 (n : Int), (.iface (Tryd.laysPu14_ren.t 39) (.pointer (some ⟨N, 0, none⟩)))]) (by simp [results, Tryd.results63, go_sem]) rfl ⟨⟨_, rfl⟩, HB2.out⟩
theorem c_atoi (x : List UInt8) (w : World) (hx : x.length ≤ 1000000) (hN : NumAt w) :
    Calls Tryd.prog 74 #[.string (txt x)] w fun e w' => AtR (atoiV x) e ∧ Below w.heap.size w w' := by
  have hsz : (txt x).size ≤ 1000000 := by rw [txt_size]; exact hx
  obtain ⟨r, hr⟩ : ∃ r, Lib.atoiAll x = r := ⟨_, rfl⟩
  have hr2 : Lib.atoiAll (txt x).data.toList = r := by rw [← hr]
  rcases r with v | _ | _
  · have e1 : atoiV x = v := by rw [atoiV, hr]
    rw [e1]
    refine (Tryd.strconv_Atoi_ok (txt x) (by omega) v hr2 w).mono fun e w' ⟨h1, h2⟩ => ⟨⟨_, h1⟩, ?_⟩
    rcases h2 with rfl | ⟨t, rfl⟩
    · exact Below.refl _ _
    · exact bytesWorld_below _ _ _
  · have e1 : atoiV x = 0 := by rw [atoiV, hr]
    rw [e1]
    obtain ⟨ev, hv, hev⟩ := hN.2.1
    exact (Any.strconv_Atoi_syntax Tryd.laysC172 (txt x) (by omega) hr2 ev w hv hev).mono fun e w' ⟨N, h1, _, _, h4⟩ => ⟨⟨_, h1⟩, h4⟩
  · have e1 : atoiV x = Lib.atoiSat x := by rw [atoiV, hr]
    rw [e1]
    obtain ⟨ev, hv, hev⟩ := hN.2.2
    exact (Tryd.strconv_Atoi_range (txt x) (by omega) hr2 ev w hv hev).mono fun e w' ⟨N, h1, _, _, h4⟩ => ⟨⟨_, h1⟩, h4⟩
theorem atoi_rng (x : List UInt8) : -9223372036854775808 ≤ atoiV x ∧ atoiV x ≤ 9223372036854775807 := by
  unfold atoiV
  split
  · rename_i v h
    unfold Lib.atoiAll at h
    split at h
    · cases h
    · simp only at h
      split at h
      · cases h
      · cases h
      · split at h
        · cases h
        · split at h
          · cases h
          · injection h with h
            split at h <;> omega
  · unfold Lib.atoiSat
    split <;> omega
  · omega
/-- What CutPrefix leaves. -/
def cutM (x : List UInt8) : List UInt8 × Bool := if x.head? = some 45 then (x.tail, true) else (x, false)
theorem cutM_is (x : List UInt8) : Lib.trimPrefix x [45] = (cutM x).1 ∧ Lib.hasPrefix x [45] = (cutM x).2 := by
  cases x with
  | nil => exact ⟨rfl, rfl⟩
  | cons c r =>
    by_cases hc : c = 45
    · subst hc
      exact ⟨by simp [Lib.trimPrefix, Lib.hasPrefix, cutM], by simp [Lib.hasPrefix, cutM]⟩
    · have hb : ((45 : UInt8) == c) = false := beq_eq_false_iff_ne.2 (fun e => hc e.symm)
      have hp : Lib.hasPrefix (c :: r) [45] = false := by
        show ((45 : UInt8) == c && ([] : List UInt8).isPrefixOf r) = false
        rw [hb]; rfl
      have hm : cutM (c :: r) = (c :: r, false) := by rw [cutM, if_neg (by simpa using hc)]
      rw [Lib.trimPrefix, hp, hm]
      exact ⟨rfl, rfl⟩
theorem c_cutm (x : List UInt8) (w : World) : Calls Tryd.prog 54 #[.string (txt x), .string ⟨#[45]⟩] w fun e w' => e = .returned (.tuple #[.string (txt (cutM x).1), .bool (cutM x).2]) ∧ w' = w := by
  obtain ⟨h1, h2⟩ := cutM_is x
  have := Tryd.strings_CutPrefix (txt x) ⟨#[45]⟩ w
  have e1 : (txt x).data.toList = x := byt_txt x
  have e2 : (⟨#[45]⟩ : ByteArray).data.toList = [45] := rfl
  rw [e1, e2, h1, h2] at this
  exact this
theorem index_p : ∀ r : List UInt8, Lib.index r [112] = if (112 : UInt8) ∈ r then ((cutH r).length : Int) else -1
  | [] => rfl
  | b :: r => by
    have ih := index_p r
    have e : Lib.index (b :: r) [112] = if ([112] : List UInt8).isPrefixOf (b :: r) then 0 else if Lib.index r [112] == -1 then -1 else Lib.index r [112] + 1 := rfl
    rw [e, ih]
    by_cases hb : b = 112
    · subst hb
      rw [if_pos (by simp [List.isPrefixOf]), if_pos (List.mem_cons_self)]
      rfl
    · have h1 : ([112] : List UInt8).isPrefixOf (b :: r) = false := by
        have : ((112 : UInt8) == b) = false := beq_eq_false_iff_ne.2 (fun e => hb e.symm)
        simp [List.isPrefixOf, this]
      have h2 : (b != 112) = true := by simpa using hb
      have h3 : cutH (b :: r) = b :: cutH r := by unfold cutH; rw [List.takeWhile_cons, if_pos h2]
      rw [h1, if_neg (by decide), h3]
      by_cases hm : (112 : UInt8) ∈ r
      · have hq : (((cutH r).length : Int) == -1) = false := beq_eq_false_iff_ne.2 (by omega)
        rw [if_pos hm, hq, if_pos (List.mem_cons_of_mem _ hm)]
        show ((cutH r).length : Int) + 1 = ((b :: cutH r).length : Nat)
        rw [List.length_cons]; omega
      · have hn : ¬ (112 : UInt8) ∈ b :: r := fun h => by
          rcases List.mem_cons.1 h with e | e
          · exact hb e.symm
          · exact hm e
        rw [if_neg hm, if_neg hn]; rfl
theorem cut_no : ∀ r : List UInt8, (112 : UInt8) ∉ r → cutH r = r ∧ cutT r = []
  | [], _ => ⟨rfl, rfl⟩
  | b :: r, h => by
    obtain ⟨h1, h2⟩ := cut_no r (fun e => h (List.mem_cons_of_mem _ e))
    have hb : (b != 112) = true := by
      have : b ≠ 112 := fun e => h (e ▸ List.mem_cons_self)
      simpa using this
    constructor
    · unfold cutH at h1 ⊢
      rw [List.takeWhile_cons, if_pos hb, h1]
    · unfold cutT at h2 ⊢
      rw [List.dropWhile_cons, if_pos hb, h2]
theorem cutP_is (r : List UInt8) : (Lib.cut r [112]).1 = cutH r ∧ (Lib.cut r [112]).2.1 = cutT r := by
  unfold Lib.cut
  rw [index_p]
  by_cases hm : (112 : UInt8) ∈ r
  · have h := cut_of hm
    rw [if_pos hm, if_pos (by omega), Int.toNat_natCast]
    constructor
    · show r.take (cutH r).length = cutH r
      conv => lhs; arg 2; rw [h]
      exact List.take_left
    · show r.drop ((cutH r).length + 1) = cutT r
      conv => lhs; arg 2; rw [h]
      rw [← List.drop_drop, List.drop_left]; rfl
  · rw [if_neg hm, if_neg (by omega)]
    exact ⟨(cut_no r hm).1.symm, (cut_no r hm).2.symm⟩
def CutR (r : List UInt8) (e : Ending) : Prop := ∃ b : Bool, e = .returned (.tuple #[.string (txt (cutH r)), .string (txt (cutT r)), .bool b])
theorem c_cut (r : List UInt8) (m : Int) (w : World) (hr : r.length ≤ 1000000) (hm : w.cell? ⟨5, 0, none⟩ = some (.int .i64 m)) :
    Calls Tryd.prog 73 #[.string (txt r), .string ⟨#[112]⟩] w fun e w' => CutR r e ∧ Below w.heap.size w w' := by
  obtain ⟨h1, h2⟩ := cutP_is r
  have := Tryd.strings_Cut (txt r) ⟨#[112]⟩ m w (by rw [txt_size]; omega) hm
  have e1 : (txt r).data.toList = r := byt_txt r
  have e2 : (⟨#[112]⟩ : ByteArray).data.toList = [112] := rfl
  rw [e1, e2, h1, h2] at this
  exact this.mono fun e w' ⟨q1, n, q2⟩ => ⟨⟨_, q1⟩, by rw [q2]; exact below_drewN _ _⟩
theorem c_copyn (g : Nat) (hg : g ≤ 9218868437227405312) (w : World) : Calls Tryd.prog 22 #[.float .f64 g, .float .f64 13830554455654793216] w fun e w' => e = .returned (.float .f64 (9223372036854775808 + g)) ∧ w' = w := by
  have h1 := run_fbits g
  have h2 : ∀ w : World, (callFunc 53 #[.float .f64 13830554455654793216]).run Tryd.prog w = .ok (.value (.int .u64 13830554455654793216)) w := run_fbits 13830554455654793216
  have q1 := b_sign (b := g) (by omega)
  rw [Nat.mod_eq_of_lt (show g < 9223372036854775808 by omega)] at q1
  have q2 : bits .and .u64 13830554455654793216 9223372036854775808 = 9223372036854775808 := by decide +kernel
  have q3 : bits .or .u64 (g : Int) 9223372036854775808 = ((9223372036854775808 + g : Nat) : Int) := by
    rw [show (9223372036854775808 : Int) = ((9223372036854775808 : Nat) : Int) from rfl, bits_or_u64_nat g _ (by omega) (by decide)]
    congr 1
    have := Nat.two_pow_add_eq_or_of_lt (i := 63) (b := g) (by omega) 1
    rw [Nat.mul_one] at this
    rw [Nat.or_comm]
    exact this.symm
  obtain ⟨z, hz⟩ : ∃ z, 9223372036854775808 + g = z := ⟨_, rfl⟩
  rw [hz] at q3 ⊢
  have h3 := run_ffrom z
  clear hz hg
  go_enter Tryd.func22, Tryd.ntmps22
  go_wp2_with fail
  go_ret
  exact ⟨rfl, rfl⟩
theorem intW_rng {n : Nat} (h : n < 9007199254740992) (h0 : n ≠ 0) : 4503599627370496 ≤ intW n ∧ intW n < 9218868437227405312 := by
  obtain ⟨h1, h2⟩ := norm_rng h h0
  have hl := int_log h h0
  unfold intW
  omega
end Go.Proofs.YtckcadhjpjjmjaaDoor
