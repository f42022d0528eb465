/- The document's answer of layer 4: a mac. No condition. -/
import Derived.Test.YtdkeflhgengblaaDoorRs6
namespace Go.Proofs.YtdkeflhgengblaaDoor
open Go.RowKit
set_option maxRecDepth 100000 in
set_option maxHeartbeats 1600000 in
theorem c_rmac (A B : Option Addr) (n c m d : Nat) (key xs : List UInt8) (ok ok' : Nat → Prop) (w : World) (hK : kU8.Row ok w A n c key) (hX : kU8.Row ok' w B m d xs) (hn : n < 1073741824) (hm : m < 1073741824) :
    Calls Tryd.prog 16 #[.slice A n c, .slice B m d] w fun e w' => ∃ v, e = .returned v ∧ kU8.Own (fun _ => True) w.heap.size w' 5 v (mac key xs) ∧ Below w.heap.size w w' := by
  have HK := hide hK
  have HX := hide hX
  have HN : Hid (n < 1099511627776) := hide (by omega)
  have HM := hide hm
  have HML : Hid (xs.length = m) := hide hX.1
  clear hK hX hn hm
  go_enter Tryd.func16, Tryd.ntmps16
  go_wp2_with fail
  refine (c_rturned A n c key 54 ok w HK.out HN.out).mono ?_
  rintro e w1 ⟨v1, rfl, h1, b1⟩
  obtain ⟨K1, hK1⟩ : ∃ K, K = keyX key 54 := ⟨_, rfl⟩
  have hl1 : K1.length = 64 := by rw [hK1]; exact keyX_len _ _
  rw [← hK1] at h1
  have HK1 := hide hK1
  have HL1 := hide hl1
  have HV1 := hide h1
  have HX1 := hide (HX.out.below b1)
  have HKK1 := hide (HK.out.below b1)
  have HB1 := hide b1
  have hw1 := b1.size
  clear h1 b1 hK1 hl1
  go_wp2_with (at_builtin; go_loud (refine wpList_app (d := kU8) (ok := fun _ => True) (base := w.heap.size) rfl _ _ _ rfl Tryd.underlying22 u8_info rfl (by decide) d rfl rfl (.inl HV1.out) (src8 HX1.out.src) ?_ ?_ ?_ ?_))
  · exact hw1
  · have := HL1.out; have := HM.out; simp only [maxLen]; omega
  · have := HL1.out; have := HM.out; omega
  intro v2 w2 _ h2 b2 _ _
  have h2 := h2 (.inr HV1.out)
  obtain ⟨A2, c2, rfl, hr2⟩ := own_row h2
  obtain ⟨l2, hl2⟩ : ∃ l, l = (K1 ++ xs).length := ⟨_, rfl⟩
  rw [← hl2] at hr2 ⊢
  have HL2 : Hid (l2 < 1099511627776) := hide (by rw [hl2, List.length_append, HL1.out, HML.out]; have := HM.out; omega)
  have HR2 := hide hr2
  have HB2 := hide (HB1.out.trans b2)
  have HKK2 := hide (HK.out.below HB2.out)
  have hw2 := HB2.out.size
  clear h2 hr2 b2 hl2
  go_wp2_with fail
  refine (c_rof (K1 ++ xs) A2 l2 c2 _ w2 HR2.out HL2.out).mono ?_
  rintro e w3 ⟨v3, rfl, h3, b3⟩
  obtain ⟨A3, c3, rfl, hr3⟩ := own_row h3
  obtain ⟨S3, hS3⟩ : ∃ S, S = sha (K1 ++ xs) := ⟨_, rfl⟩
  have hl3 : S3.length = 32 := by rw [hS3]; rfl
  rw [← hS3] at hr3 ⊢
  rw [hl3] at hr3 ⊢
  have HS3 := hide hS3
  have HL3 := hide hl3
  have HR3 := hide hr3
  have HB3 := hide (HB2.out.trans (b3.mono hw2))
  have HKK3 := hide (HK.out.below HB3.out)
  have hw3 := HB3.out.size
  clear h3 hr3 b3 hS3 hl3
  go_wp2_with fail
  refine (c_rturned A n c key 92 ok w3 HKK3.out HN.out).mono ?_
  rintro e w4 ⟨v4, rfl, h4, b4⟩
  obtain ⟨K4, hK4⟩ : ∃ K, K = keyX key 92 := ⟨_, rfl⟩
  have hl4 : K4.length = 64 := by rw [hK4]; exact keyX_len _ _
  rw [← hK4] at h4
  have HK4 := hide hK4
  have HL4 := hide hl4
  have HV4 := hide (h4.lower hw3)
  have HR4 := hide (HR3.out.below b4)
  have HB4 := hide (HB3.out.trans (b4.mono hw3))
  have hw4 := HB4.out.size
  clear h4 b4 hK4 hl4
  go_wp2_with (at_builtin; go_loud (refine wpList_app (d := kU8) (ok := fun _ => True) (base := w.heap.size) rfl _ _ _ rfl Tryd.underlying22 u8_info rfl (by decide) c3 rfl rfl (.inl HV4.out) (src8 HR4.out.src) ?_ ?_ ?_ ?_))
  · exact hw4
  · have := HL4.out; simp only [maxLen]; omega
  · have := HL4.out; omega
  intro v5 w5 _ h5 b5 _ _
  obtain ⟨A5, c5, rfl, hr5⟩ := own_row h5
  have hl5 : (K4 ++ S3).length = 96 := by rw [List.length_append, HL4.out, HL3.out]
  rw [hl5] at hr5 ⊢
  have HR5 := hide hr5
  have HB5 := hide (HB4.out.trans b5)
  have hw5 := HB5.out.size
  clear h5 hr5 b5 hl5
  go_wp2_with fail
  refine (c_rof (K4 ++ S3) A5 96 c5 _ w5 HR5.out (by decide)).mono ?_
  rintro e w6 ⟨v6, rfl, h6, b6⟩
  have H6 := hide (h6.lower hw5)
  have HB6 := hide (HB5.out.trans (b6.mono hw5))
  clear h6 b6
  go_wp2_with fail
  go_ret
  refine ⟨_, rfl, ?_, HB6.out⟩
  have := H6.out
  rw [HK4.out, HS3.out, HK1.out] at this
  exact this
end Go.Proofs.YtdkeflhgengblaaDoor
