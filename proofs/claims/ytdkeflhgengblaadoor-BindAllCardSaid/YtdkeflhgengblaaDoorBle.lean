/- The statement BindAll, for every input, and its tied card. No condition. -/
import Derived.Test.YtdkeflhgengblaaDoorBld
import Derived.Test.YtdkeflhgengblaaDoorBlb
import Derived.Test.YtdkeflhgengblaaDoorBla
import Derived.SizedLaws
import Derived.Test.YtdkeflhgengblaaDoorRows
import Derived.Test.YtdkeflhgengblaaDoorTie
import Derived.Test.YtdkeflhgengblaaDoorCards
import Derived.SevenTiedAt
namespace Go.Proofs.YtdkeflhgengblaaDoor
open Go.RowKit
attribute [local go_sem ↓] ld8 ld32 ld64 ld73
attribute [local go_sem] run_ldAgg run_storeAgg agg_alloc_at agg_alloc_past agg_drew agg_setCell row_alloc_at row_alloc_past row_drew setRow_alloc_at setRow_alloc_past setRow_drew agg_setRow_at agg_setRow_far cell_setRow_at cell_setRow_far row_setRow_far size_setRow s8C_size s8C_part s8C_one s8C_splice0 s8C_ne dgC_size dgC_72 dgC_part dgC_h dgC_r dgC_splice_h dgC_set dgC_one dgC_splice0 dgC_ne zero_dg
attribute [local go_sem] tgC_size tgC_one tgC_part tgC_splice tgC_splice_any zero_tg tgC_ne
attribute [local go_sem ↓] ld36
attribute [local go_sem] tokC_size tokC_0 tokC_1 tokC_2 tokC_3 tokC_g0 tokC_g1 tokC_g2 tokC_g3 tokC_part tokC_tag tokC_set0 tokC_set1 tokC_set2 tokC_set3 tokC_splice tokC_splice0 zero_tok tokC_all tokC_ne

set_option maxRecDepth 100000 in
theorem built_tok (t : Tg) : Tryd.prog.built 44 [(4, .agg (tgC t))] = some (tokC (.int .u64 0) (.string ⟨#[]⟩) (.slice none 0 0) (.bool false) t) := by
  have hz : (Tryd.prog.info? 44).map (fun i => (i.zero, i.size)) = some (some (.agg #[.int .u64 0, .string ⟨#[]⟩, .slice none 0 0, .bool false, .int .u8 0, .int .u8 0, .int .u8 0, .int .u8 0, .int .u8 0, .int .u8 0, .int .u8 0, .int .u8 0, .int .u8 0, .int .u8 0, .int .u8 0, .int .u8 0, .int .u8 0, .int .u8 0, .int .u8 0, .int .u8 0, .int .u8 0, .int .u8 0, .int .u8 0, .int .u8 0, .int .u8 0, .int .u8 0, .int .u8 0, .int .u8 0, .int .u8 0, .int .u8 0, .int .u8 0, .int .u8 0, .int .u8 0, .int .u8 0, .int .u8 0, .int .u8 0]), 36) := by kernel_rfl
  obtain ⟨i0, hi, hzz⟩ := Option.map_eq_some_iff.1 hz
  simp only [Prod.mk.injEq] at hzz
  obtain ⟨hz0, hz1⟩ := hzz
  rw [zero_tok] at hz0
  have hp : #[(⟨"Key", 41, 0, false, "", "", 0⟩ : Field), (⟨"ID", 9, 1, false, "", "", 8⟩ : Field), (⟨"Caveats", 42, 2, false, "", "", 24⟩ : Field), (⟨"Bound", 4, 3, false, "", "", 48⟩ : Field), (⟨"Tag", 29, 4, false, "", "", 49⟩ : Field)].toList.mapM (fun f => (Tryd.prog.info? f.type).map fun i => (f.offset, i.size)) = some [(0, 1), (1, 1), (2, 1), (3, 1), (4, 32)] := by kernel_rfl
  unfold Program.built
  rw [hi, Tryd.underlying44]
  simp only [hz0]
  rw [hp]
  simp only [Value.cells]
  rw [fill_cons (o := 4) (n := 32) rfl (tgC_size _) (by rw [tokC_size]; decide), tokC_splice]
  rfl
set_option maxRecDepth 100000 in
theorem at_buildTT {ops : Array Oper} {rest : List Oper} {a0 : Act} {w : World} {Q : Exit → Act → World → Prop} {dst : Option Tmp} {ty : TypeId} {pos : String} {after : Array Edge} {x : Operand} (t : Tg) (hx : a0.eval x = .agg (tgC t))
    (h : wpList Tryd.prog ops Q rest (a0.put dst (.agg (tokC (.int .u64 0) (.string ⟨#[]⟩) (.slice none 0 0) (.bool false) t))) w) : wpList Tryd.prog ops Q (⟨dst, .build 44 #[(4, x)], ty, pos, after, none⟩ :: rest) a0 w := by
  refine wpList_plain rfl fun _ hK => ?_
  have e : (Array.map (fun x => (x.fst, a0.eval x.snd)) #[(4, x)]).toList = [(4, .agg (tgC t))] := by simp [hx]
  have hb := (congrArg (Tryd.prog.built 44) e).trans (built_tok t)
  refine wp_build 44 #[(4, x)] rfl (by rw [hb]; rfl) ?_
  rw [hb]
  exact hK _ _ h
set_option maxRecDepth 100000 in
theorem bind_unlike : bindT (tgN 1) (tgN 2) ≠ bindT (tgN 3) (tgN 2) := by
  have h1 := macF_eq (tgN 1).l (frames [uBind, txt (tgN 2).l]) (fun l => decide (l.take 1 = [211]))
  have h1' : macF (tgN 1).l (frames [uBind, txt (tgN 2).l]) (fun l => decide (l.take 1 = [211])) = true := by decide +kernel
  have h3 := macF_eq (tgN 3).l (frames [uBind, txt (tgN 2).l]) (fun l => decide (l.take 1 = [239]))
  have h3' : macF (tgN 3).l (frames [uBind, txt (tgN 2).l]) (fun l => decide (l.take 1 = [239])) = true := by decide +kernel
  rw [h1'] at h1
  rw [h3'] at h3
  have e1 := of_decide_eq_true h1.symm
  have e3 := of_decide_eq_true h3.symm
  intro e
  have e' : (bindT (tgN 1) (tgN 2)).l = (bindT (tgN 3) (tgN 2)).l := by rw [e]
  change mac (tgN 1).l (frames [uBind, txt (tgN 2).l]) = mac (tgN 3).l (frames [uBind, txt (tgN 2).l]) at e'
  rw [e', e3] at e1
  exact absurd e1 (by decide)
theorem tset (x : UInt8) : (tgC Tg.zero).setIfInBounds 0 (.int .u8 (x.toNat : Int)) = tgC (tgN x) := rfl
set_option maxRecDepth 100000 in
set_option maxHeartbeats 1600000 in
theorem c_bindalive (w : World) (hP : PrimesAt w) : Calls Tryd.prog 24 #[] w fun e w' => e = .returned (.bool true) ∧ Below w.heap.size w w' := by
  have HP := hide hP
  have hw0 := hP.1
  clear hP
  obtain ⟨T1, hT1⟩ : ∃ T1, tgN 1 = T1 := ⟨_, rfl⟩
  obtain ⟨T2, hT2⟩ : ∃ T2, tgN 2 = T2 := ⟨_, rfl⟩
  obtain ⟨T3, hT3⟩ : ∃ T3, tgN 3 = T3 := ⟨_, rfl⟩
  have ht1 : (tgC Tg.zero).setIfInBounds 0 (.int .u8 1) = tgC T1 := by rw [← hT1]; rfl
  have ht2 : (tgC Tg.zero).setIfInBounds 0 (.int .u8 2) = tgC T2 := by rw [← hT2]; rfl
  have ht3 : (tgC Tg.zero).setIfInBounds 0 (.int .u8 3) = tgC T3 := by rw [← hT3]; rfl
  have hun := bind_unlike
  rw [hT1, hT2, hT3] at hun
  have HUN := hide hun
  clear hT1 hT2 hT3 hun
  obtain ⟨C2, hC2⟩ : ∃ C2, C2 = tokC (.int .u64 0) (.string ⟨#[]⟩) (.slice none 0 0) (.bool false) T2 := ⟨_, rfl⟩
  have HC2 := hide hC2
  obtain ⟨W1, hW1⟩ : ∃ W1, W1 = (w.alloc (.cells (tgC T1) 29)).alloc (.cells C2 44) := ⟨_, rfl⟩
  have HB1 : Hid (Below w.heap.size w W1) := hide (by rw [hW1]; exact below2 _ _ _)
  have hs1 : W1.heap.size = w.heap.size + 2 := by rw [hW1]; simp only [World.size_alloc]
  have HA1 : Hid (W1.heap[w.heap.size]? = some (.cells (tgC T1) 29)) := hide (by
    rw [hW1, Below.heap_alloc _ _ _ (by simp only [World.size_alloc]; omega)]; exact heap_alloc_new _ _)
  have HD1 : Hid (W1.heap[w.heap.size + 1]? = some (.cells C2 44)) := hide (by
    rw [hW1]
    have := heap_alloc_new (w.alloc (.cells (tgC T1) 29)) (.cells C2 44)
    rwa [World.size_alloc] at this)
  go_enter Tryd.func24, Tryd.ntmps24
  go_wp2_with ((with_reducible show wpList _ _ _ (Oper.mk (some 7) _ _ _ _ _ :: _) _ _); go_loud (refine at_buildTT T2 rfl ?_))
  rw [← hC2, ← hW1]
  clear hC2 hW1
  obtain ⟨T4, hT4⟩ : ∃ T4, bindT T1 T2 = T4 := ⟨_, rfl⟩
  rw [show Value.agg C2 = tokV ⟨0, ByteArray.empty, [], false, T2⟩ none 0 0 from by rw [HC2.out]; rfl]
  refine (c_bind T1 ⟨0, ByteArray.empty, [], false, T2⟩ none 0 0 (fun _ => True) W1 (.nil _ _ _ _ _ (Nat.zero_le _)) (by decide) (HP.out.ext HB1.out)).mono ?_
  rintro e w2 ⟨A, n, c, rfl, hr, b2⟩
  rw [show bindR T1 ⟨0, ByteArray.empty, [], false, T2⟩ = ⟨0, ByteArray.empty, [], true, T4⟩ from by rw [← hT4]; rfl, show bindE ⟨0, ByteArray.empty, [], false, T2⟩ = 0 from rfl]
  obtain ⟨X, hX⟩ : ∃ X : Tok, X = ⟨0, ByteArray.empty, [], true, T4⟩ := ⟨_, rfl⟩
  rw [← hX]
  obtain ⟨C3, hC3⟩ : ∃ C3, C3 = tokA X A n c := ⟨_, rfl⟩
  have HC3 := hide hC3
  obtain ⟨G, hG⟩ : ∃ G, G = w2.heap.size := ⟨_, rfl⟩
  obtain ⟨W3, hW3⟩ : ∃ W3, W3 = w2.alloc (.cells C3 44) := ⟨_, rfl⟩
  have b3 : Below w2.heap.size w2 W3 := by rw [hW3]; exact below1 _ _
  have hs2 := b2.size
  have k0 := (b3.block _ (by omega)).trans ((b2.block _ (by omega)).trans HA1.out)
  have k1 := (b3.block _ (by omega)).trans ((b2.block _ (by omega)).trans HD1.out)
  have k3 : W3.heap[G]? = some (.cells C3 44) := by rw [hW3, hG]; exact heap_alloc_new _ _
  have hgg : w.heap.size + 2 ≤ G := by omega
  have HB3 := hide (HB1.out.trans ((b2.trans (b3.mono hs2)).mono (by omega)))
  have hag0 : agg? W3 ⟨w.heap.size, 0, none⟩ 32 = some (tgC T1) := (agg_of_row k0 0 32 (by decide)).trans (tgC_part T1)
  have hag1 : agg? W3 ⟨w.heap.size + 1, 4, none⟩ 32 = some (tgC T2) := (agg_of_row k1 4 32 (by decide)).trans (by rw [HC2.out]; exact tokC_tag _ _ _ _ _)
  have hag3 : agg? W3 ⟨G, 0, none⟩ 36 = some C3 := (agg_of_row k3 0 36 (by decide)).trans (by rw [hC3]; exact tokC_part _ _ _ _ _)
  have hcx3 : W3.cell? ⟨G, 3, none⟩ = some (.bool true) := (cell_of_row W3 _ _ _ _ _ k3).trans (by rw [hC3, tokC_3, hX])
  have K1 := hide k1
  have K3 := hide k3
  have HP3 := hide (HP.out.ext HB3.out)
  have hz3 : C3.size = 36 := by rw [hC3]; exact tokC_size _ _ _ _ _
  have ho3 : oneAll C3 = true := by rw [hC3]; exact tokC_all _ _ _ _ _ _ _ _
  have hsp3 : splice tokZ 0 C3 = C3 := by rw [hC3]; exact tokC_splice0 _ _ _ _ _ _ (tokC_size _ _ _ _ _)
  have HF1 : Hid (fitsB T1 T2 X = true) := hide (by rw [hX]; exact decide_eq_true hT4.symm)
  have HF3 : Hid (fitsB T3 T2 X = false) := hide (by rw [hX]; exact decide_eq_false (fun e => HUN.out (by rw [hT4]; exact e)))
  have hC3' : (.agg C3 : Value) = tokV X A n c := by rw [hC3]
  have HC3V := hide hC3'
  have hg3 : C3[3]'(by rw [hz3]; decide) = .bool true := by
    have h3 : C3[3]? = some (.bool true) := by rw [hC3, tokC_3, hX]
    rw [Array.getElem?_eq_getElem (by rw [hz3]; decide)] at h3
    exact Option.some.inj h3
  rw [hW3] at hag0 hag1 hag3 hcx3
  rw [hG] at hag3 hcx3
  have HGE := hide hG
  have HWE := hide hW3
  clear hX hT4 hr b2 b3 k0 k1 k3 HA1 HD1 HB1 hC3' hW3 hG
  rw [show tokV X A n c = .agg C3 from HC3V.out.symm]
  clear hC3
  go_wp2_with fail
  rw [← HWE.out, ← HGE.out]
  rw [HC3V.out]
  refine (c_fits T1 T2 X A n c W3 HP3.out).mono ?_
  rintro e w4 ⟨rfl, b4⟩
  rw [HF1.out]
  have hs4 := b4.size
  have hl3 := (Array.getElem?_eq_some_iff.1 K3.out).1
  have k14 := (b4.block _ (by omega)).trans K1.out
  have k34 := (b4.block _ (by omega)).trans K3.out
  have hag14 : agg? w4 ⟨w.heap.size + 1, 4, none⟩ 32 = some (tgC T2) := (agg_of_row k14 4 32 (by decide)).trans (by rw [HC2.out]; exact tokC_tag _ _ _ _ _)
  have hag34 : agg? w4 ⟨G, 0, none⟩ 36 = some C3 := (agg_of_row k34 0 36 (by decide)).trans (by rw [HC3.out]; exact tokC_part _ _ _ _ _)
  have HB4 := hide (HB3.out.trans (b4.mono HB3.out.size))
  have HP4 := hide (HP.out.ext HB4.out)
  clear b4 k14 k34 hag0 hag1 hag3 hcx3
  go_wp2_with fail
  rw [HC3V.out]
  refine (c_fits T3 T2 X A n c w4 HP4.out).mono ?_
  rintro e w5 ⟨rfl, b5⟩
  rw [HF3.out]
  have HB5 := hide (HB4.out.trans (b5.mono HB4.out.size))
  clear b5
  go_wp2_with fail
  go_ret
  exact ⟨rfl, HB5.out⟩
set_option maxRecDepth 100000 in
set_option maxHeartbeats 3200000 in
theorem c_bindtells (root en : Tg) (d : Tok) (A : Option Addr) (n c : Nat) (w : World) (hR : kCav.Row (· < w.heap.size) w A n c d.cavs) (hi : d.id.size ≤ 140737488355328) (hf : ∀ c ∈ d.cavs, c.fits) (hP : PrimesAt w) :
    Calls Tryd.prog 5 #[tgV root, tgV en, tokV d A n c] w fun e w' => e = .returned (.bool true) ∧ Below w.heap.size w w' := by
  have HP0 := hide hP
  have hw0 := hP.1
  have HR0 := hide hR
  have HI := hide hi
  have HFT := hide hf
  obtain ⟨CD, hCD⟩ : ∃ CD, CD = tokA d A n c := ⟨_, rfl⟩
  have HCD : Hid (Value.agg CD = tokV d A n c) := hide (by rw [hCD])
  obtain ⟨W1, hW1⟩ : ∃ W1, W1 = ((w.alloc (.cells (tgC root) 29)).alloc (.cells (tgC en) 29)).alloc (.cells CD 44) := ⟨_, rfl⟩
  obtain ⟨g0, g1, g2⟩ := heap3g w (tgC root) (tgC en) CD 29 29 44
  rw [← hW1] at g0 g1 g2
  have hs1 : W1.heap.size = w.heap.size + 3 := by rw [hW1]; simp only [World.size_alloc]
  have HB1 : Hid (Below w.heap.size w W1) := hide (by rw [hW1]; exact below3 _ _ _ _)
  have hzD : CD.size = 36 := by rw [hCD]; exact tokC_size _ _ _ _ _
  have hoD : oneAll CD = true := by rw [hCD]; exact tokC_all _ _ _ _ _ _ _ _
  have G0 := hide g0
  have G1 := hide g1
  have G2 := hide g2
  have HCC := hide hCD
  rw [← HCD.out]
  clear g0 g1 g2 hP hR hi hf hCD
  go_enter Tryd.func5, Tryd.ntmps5
  go_wp2_with fail
  rw [← hW1]
  clear hW1
  refine (c_bindalive W1 (HP0.out.ext HB1.out)).mono ?_
  rintro e w2 ⟨rfl, b2⟩
  have hs2 := b2.size
  have HA2 := hide ((b2.block _ (by omega)).trans G0.out)
  have HE2 := hide ((b2.block _ (by omega)).trans G1.out)
  have HD2 := hide ((b2.block _ (by omega)).trans G2.out)
  have HB2 := hide (HB1.out.trans (b2.mono (by omega)))
  have hsw2 : w.heap.size + 3 ≤ w2.heap.size := by omega
  have hagD : agg? w2 ⟨w.heap.size + 2, 0, none⟩ 36 = some CD := (agg_of_row HD2.out 0 36 (by decide)).trans (by rw [HCC.out]; exact tokC_part _ _ _ _ _)
  have hagR : agg? w2 ⟨w.heap.size, 0, none⟩ 32 = some (tgC root) := (agg_of_row HA2.out 0 32 (by decide)).trans (tgC_part root)
  clear b2 HB1 G0 G1 G2
  go_wp2_with fail
  rw [HCD.out]
  refine (c_great2 d A n c _ w2 (HR0.out.belowB HB2.out) HI.out HFT.out).mono ?_
  rintro e w3 ⟨rfl, b3⟩
  have hs3 := b3.size
  have HA3 := hide ((b3.block _ (by omega)).trans HA2.out)
  have HE3 := hide ((b3.block _ (by omega)).trans HE2.out)
  have HD3 := hide ((b3.block _ (by omega)).trans HD2.out)
  have HB3 := hide (HB2.out.trans (b3.mono (by omega)))
  have hsw3 : w.heap.size + 3 ≤ w3.heap.size := by omega
  clear b3 HB2 HA2 HE2 HD2 hagD hagR
  by_cases hg : great d = true
  · rw [hg, show greatV true = .int .i64 1 from rfl]
    go_wp2_with fail
    go_ret
    exact ⟨rfl, HB3.out⟩
  rw [Bool.eq_false_iff.2 hg, show greatV false = .int .i64 0 from rfl]
  have hn : n ≤ 10000 := by
    have h1 : ¬ (10000 < d.id.size + gsum d.cavs) := fun h => hg (decide_eq_true h)
    have h2 := gsum_len d.cavs
    have h3 := HR0.out.1
    omega
  have HP3 := hide (HP0.out.ext HB3.out)
  have HRD := hide (HR0.out.belowB HB3.out)
  have hagD : agg? w3 ⟨w.heap.size + 2, 0, none⟩ 36 = some CD := (agg_of_row HD3.out 0 36 (by decide)).trans (by rw [HCC.out]; exact tokC_part _ _ _ _ _)
  have hagR : agg? w3 ⟨w.heap.size, 0, none⟩ 32 = some (tgC root) := (agg_of_row HA3.out 0 32 (by decide)).trans (tgC_part root)
  obtain ⟨X, hX⟩ : ∃ X, bindR root d = X := ⟨_, rfl⟩
  obtain ⟨e0, he0⟩ : ∃ e0, bindE d = e0 := ⟨_, rfl⟩
  have HXX := hide hX
  have HEE := hide he0
  clear hg hX he0
  go_wp2_with fail
  rw [HCD.out]
  refine (c_bind root d A n c _ w3 HRD.out (by omega) HP3.out).mono ?_
  rintro e w4 ⟨A1, n1, c1, rfl, hr1, b4⟩
  rw [HXX.out] at hr1
  rw [HXX.out, HEE.out]
  obtain ⟨CX1, hCX1⟩ : ∃ CX1, CX1 = tokA X A1 n1 c1 := ⟨_, rfl⟩
  have HV1 : Hid (Value.agg CX1 = tokV X A1 n1 c1) := hide (by rw [hCX1])
  rw [← HV1.out]
  have hs4 := b4.size
  have b41 : Below w3.heap.size w3 (w4.alloc (.cells CX1 44)) := b4.alloc hs4 _
  have HA4 := hide ((b41.block _ (by omega)).trans HA3.out)
  have HE4 := hide ((b41.block _ (by omega)).trans HE3.out)
  have HD4 := hide ((b41.block _ (by omega)).trans HD3.out)
  have HX4 := hide (heap_alloc_new w4 (.cells CX1 44))
  have HB4 := hide (HB3.out.trans (b41.mono (by omega)))
  have HR1 := hide ((hr1.more (ok' := fun _ => True) fun _ _ => trivial).alloc (.cells CX1 44))
  have hz1 : CX1.size = 36 := by rw [hCX1]; exact tokC_size _ _ _ _ _
  have ho1 : oneAll CX1 = true := by rw [hCX1]; exact tokC_all _ _ _ _ _ _ _ _
  have hsp1 : splice tokZ 0 CX1 = CX1 := by rw [hCX1]; exact tokC_splice0 _ _ _ _ _ _ (tokC_size _ _ _ _ _)
  have hagD4 : agg? (w4.alloc (.cells CX1 44)) ⟨w.heap.size + 2, 0, none⟩ 36 = some CD := (agg_of_row HD4.out 0 36 (by decide)).trans (by rw [HCC.out]; exact tokC_part _ _ _ _ _)
  have hagR4 : agg? (w4.alloc (.cells CX1 44)) ⟨w.heap.size, 0, none⟩ 32 = some (tgC root) := (agg_of_row HA4.out 0 32 (by decide)).trans (tgC_part root)
  have HRD4 := hide (HR0.out.belowB HB4.out)
  have HCX1 := hide hCX1
  clear b4 b41 hr1 HA3 HE3 HD3 HB3 HP3 HRD hagD hagR hCX1
  go_wp2_with fail
  rw [HCD.out]
  refine (c_rbind root d A n c _ _ HRD4.out (by omega)).mono ?_
  rintro e w5 ⟨A2, n2, c2, rfl, hr2, b5⟩
  rw [HXX.out] at hr2
  rw [HXX.out, HEE.out]
  obtain ⟨CX2, hCX2⟩ : ∃ CX2, CX2 = tokA X A2 n2 c2 := ⟨_, rfl⟩
  have HV2 : Hid (Value.agg CX2 = tokV X A2 n2 c2) := hide (by rw [hCX2])
  rw [← HV2.out]
  obtain ⟨G1, hG1⟩ : ∃ G1, G1 = w4.heap.size := ⟨_, rfl⟩
  obtain ⟨G2, hG2⟩ : ∃ G2, G2 = w5.heap.size := ⟨_, rfl⟩
  obtain ⟨W6, hW6⟩ : ∃ W6, W6 = w5.alloc (.cells CX2 44) := ⟨_, rfl⟩
  have hs5 := b5.size
  simp only [World.size_alloc] at hs5
  have b56 : Below (w4.heap.size + 1) (w4.alloc (.cells CX1 44)) W6 := by rw [hW6]; simp only [World.size_alloc] at b5; exact b5.alloc hs5 _
  have HA := hide ((b56.block _ (by omega)).trans HA4.out)
  have HB := hide ((b56.block _ (by omega)).trans HE4.out)
  have HD : Hid (W6.heap[w.heap.size + 2]? = some (.cells (tokA d A n c) 44)) := hide (((b56.block _ (by omega)).trans HD4.out).trans (by rw [HCC.out]))
  have HX1 : Hid (W6.heap[G1]? = some (.cells (tokA X A1 n1 c1) 44)) := hide (by rw [hG1]; exact ((b56.block _ (by omega)).trans HX4.out).trans (by rw [HCX1.out]))
  have HX2 : Hid (W6.heap[G2]? = some (.cells (tokA X A2 n2 c2) 44)) := hide (by rw [hW6, hG2, ← hCX2]; exact heap_alloc_new _ _)
  have HR1' := hide (HR1.out.below (w' := W6) (by rw [World.size_alloc]; exact b56))
  have HR2 : Hid (kCav.Row (fun _ => True) W6 A2 n2 c2 X.cavs) := hide (by rw [hW6]; exact (hr2.more fun _ _ => trivial).alloc _)
  have HB6 := hide (HB4.out.trans (b56.mono (by omega)))
  have HP := hide (HP0.out.ext HB6.out)
  have hz2 : CX2.size = 36 := by rw [hCX2]; exact tokC_size _ _ _ _ _
  have ho2 : oneAll CX2 = true := by rw [hCX2]; exact tokC_all _ _ _ _ _ _ _ _
  have hsp2 : splice tokZ 0 CX2 = CX2 := by rw [hCX2]; exact tokC_splice0 _ _ _ _ _ _ (tokC_size _ _ _ _ _)
  obtain ⟨t1, ht1⟩ : ∃ t1, bindT root en = t1 := ⟨_, rfl⟩
  obtain ⟨q, hq⟩ : ∃ q, fitsB root en d = q := ⟨_, rfl⟩
  obtain ⟨r, hr⟩ : ∃ r, fitsB root d.tag d = r := ⟨_, rfl⟩
  have HT1 := hide ht1
  have HQ := hide hq
  have HRR := hide hr
  have HW6 := hide hW6
  have HG1 := hide hG1
  have HG2 := hide hG2
  clear b5 b56 hr2 hagD4 hagR4 HA4 HE4 HD4 HX4 HB4 HR1 HRD4 hW6 hG1 hG2 hCX2 ht1 hq hr
  go_wp2_with fail
  rw [← HW6.out, ← HG1.out, ← HG2.out]
  clear HW6 HG1 HG2 hz1 hz2 ho1 ho2 hsp1 hsp2
  refine wp_region_ext mixed 41 (fun i v w' => match i with
    | 0 => v = .int .i64 e0
    | 1 => v = .int .i64 e0
    | 2 => v = .bool true
    | 3 => v = .bool true
    | 4 => v = tokV X A1 n1 c1
    | 5 => v = tokV X A2 n2 c2
    | 6 => v = .bool true
    | 7 => v = .bool true
    | 8 => v = .bool true
    | 9 => v = tgV root
    | 10 => v = tgV en
    | 11 => v = tgV t1
    | 12 => v = tgV root
    | 13 => v = tgV en
    | 14 => v = tgV t1
    | 15 => v = .bool true
    | 16 => v = .bool true
    | 17 => v = .bool true
    | 18 => v = tgV root
    | 19 => v = tgV en
    | 20 => v = tokV d A n c
    | 21 => v = .bool q
    | 22 => v = tgV root
    | 23 => v = tgV en
    | 24 => v = tokV d A n c
    | 25 => v = .bool q
    | 26 => v = .bool true
    | 27 => v = .bool true
    | 28 => v = .bool true
    | 29 => v = tgV root
    | 30 => v = .pointer (some ⟨w.heap.size + 2, 4, none⟩)
    | 31 => v = tgV d.tag
    | 32 => v = tokV d A n c
    | 33 => v = .bool r
    | 34 => v = tgV root
    | 35 => v = .pointer (some ⟨w.heap.size + 2, 4, none⟩)
    | 36 => v = tgV d.tag
    | 37 => v = tokV d A n c
    | 38 => v = .bool r
    | 39 => v = .bool true
    | _ => v = .bool true
    ) (regOk_of (by kernel_rfl)) rfl ?_ ?_ ?_
  · intro i v w1 w2 h1 h2
    split at h2 <;> exact h2
  · refine ⟨fun a w2 hle hd hf hs K hK => ?_, fun a w2 hle hd hf hs K hK => ?_, fun a w2 hle hd hf hs K hK => ?_, fun a w2 hle hd hf hs K hK => ?_, fun a w2 hle hd hf hs K hK => ?_, fun a w2 hle hd hf hs K hK => ?_, fun a w2 hle hd hf hs K hK => ?_, fun a w2 hle hd hf hs K hK => ?_, fun a w2 hle hd hf hs K hK => ?_, fun a w2 hle hd hf hs K hK => ?_, fun a w2 hle hd hf hs K hK => ?_, fun a w2 hle hd hf hs K hK => ?_, fun a w2 hle hd hf hs K hK => ?_, fun a w2 hle hd hf hs K hK => ?_, fun a w2 hle hd hf hs K hK => ?_, fun a w2 hle hd hf hs K hK => ?_, fun a w2 hle hd hf hs K hK => ?_, fun a w2 hle hd hf hs K hK => ?_, fun a w2 hle hd hf hs K hK => ?_, fun a w2 hle hd hf hs K hK => ?_, fun a w2 hle hd hf hs K hK => ?_, fun a w2 hle hd hf hs K hK => ?_, fun a w2 hle hd hf hs K hK => ?_, fun a w2 hle hd hf hs K hK => ?_, fun a w2 hle hd hf hs K hK => ?_, fun a w2 hle hd hf hs K hK => ?_, fun a w2 hle hd hf hs K hK => ?_, fun a w2 hle hd hf hs K hK => ?_, fun a w2 hle hd hf hs K hK => ?_, fun a w2 hle hd hf hs K hK => ?_, fun a w2 hle hd hf hs K hK => ?_, fun a w2 hle hd hf hs K hK => ?_, fun a w2 hle hd hf hs K hK => ?_, fun a w2 hle hd hf hs K hK => ?_, fun a w2 hle hd hf hs K hK => ?_, fun a w2 hle hd hf hs K hK => ?_, fun a w2 hle hd hf hs K hK => ?_, fun a w2 hle hd hf hs K hK => ?_, fun a w2 hle hd hf hs K hK => ?_, fun a w2 hle hd hf hs K hK => ?_, fun a w2 hle hd hf hs K hK => ?_, trivial⟩
    all_goals clear hd
    · -- 28 := Op.move t8
      have e8 := hf 8 rfl; simp [Act.eval] at e8
      go_simp; exact hK _ _ (Ext.refl _) rfl
    · -- 29 := Op.move t10
      have e10 := hf 10 rfl; simp [Act.eval] at e10
      go_simp; exact hK _ _ (Ext.refl _) rfl
    · -- 30 := Op.binOp BinOp.eql 3 t28 t29 3
      have e28 := hs 0 28 (needs_direct (by kernel_rfl)) rfl; have e29 := hs 1 29 (needs_direct (by kernel_rfl)) rfl; simp [Act.eval] at e28 e29
      go_simp; exact hK _ _ (Ext.refl _) rfl
    · -- 31 := Op.move t30
      have e30 := hs 2 30 (needs_direct (by kernel_rfl)) rfl; simp [Act.eval] at e30
      go_simp; exact hK _ _ (Ext.refl _) rfl
    · -- 32 := Op.load 44 t7
      have e7 := hf 7 rfl; have gg := hs 3 31 (needs_direct (by kernel_rfl)) rfl; simp [Act.eval] at e7 gg; replace gg := opt_bool gg
      have hq : agg? w2 ⟨G1, 0, none⟩ 36 = some (tokA X A1 n1 c1) := (agg_of_row (hle.heap HX1.out) 0 36 (by decide)).trans (tokC_part _ _ _ _ _)
      go_simp; exact hK _ _ (Ext.refl _) rfl
    · -- 33 := Op.load 44 t9
      have e9 := hf 9 rfl; have gg := hs 3 31 (needs_direct (by kernel_rfl)) rfl; simp [Act.eval] at e9 gg; replace gg := opt_bool gg
      have hq : agg? w2 ⟨G2, 0, none⟩ 36 = some (tokA X A2 n2 c2) := (agg_of_row (hle.heap HX2.out) 0 36 (by decide)).trans (tokC_part _ _ _ _ _)
      go_simp; exact hK _ _ (Ext.refl _) rfl
    · -- 34 := Op.call { value (Operand.func 28), args := #[t32, t33], argTypes := #[44, 44] }
      have e32 := hs 4 32 (needs_direct (by kernel_rfl)) rfl; have e33 := hs 5 33 (needs_direct (by kernel_rfl)) rfl; have gg := hs 3 31 (needs_direct (by kernel_rfl)) rfl; simp [Act.eval] at e32 e33 gg; replace gg := opt_bool gg
      go_simp
      refine (c_rsame X X A1 A2 n1 c1 n2 c2 _ _ w2 (HR1'.out.below hle) (HR2.out.below hle)).mono ?_
      rintro z w9 ⟨rfl, b9⟩
      rw [decide_eq_true rfl]
      exact hK _ _ b9 rfl
    · -- 35 := Op.pick t31 t34 (const (Value.bool false))
      have e31 := hs 3 31 (needs_direct (by kernel_rfl)) rfl; have e34 := hs 6 34 (needs_direct (by kernel_rfl)) rfl; simp [Act.eval] at e31 e34
      go_simp; exact hK _ _ (Ext.refl _) rfl
    · -- 36 := Op.move t35
      have e35 := hs 7 35 (needs_direct (by kernel_rfl)) rfl; simp [Act.eval] at e35
      go_simp; exact hK _ _ (Ext.refl _) rfl
    · -- 37 := Op.load 29 t3
      have e3 := hf 3 rfl; have gg := hs 8 36 (needs_direct (by kernel_rfl)) rfl; simp [Act.eval] at e3 gg; replace gg := opt_bool gg
      have hq : agg? w2 ⟨w.heap.size, 0, none⟩ 32 = some (tgC root) := (agg_of_row (hle.heap HA.out) 0 32 (by decide)).trans (tgC_part root)
      go_simp; exact hK _ _ (Ext.refl _) rfl
    · -- 38 := Op.load 29 t4
      have e4 := hf 4 rfl; have gg := hs 8 36 (needs_direct (by kernel_rfl)) rfl; simp [Act.eval] at e4 gg; replace gg := opt_bool gg
      have hq : agg? w2 ⟨w.heap.size + 1, 0, none⟩ 32 = some (tgC en) := (agg_of_row (hle.heap HB.out) 0 32 (by decide)).trans (tgC_part en)
      go_simp; exact hK _ _ (Ext.refl _) rfl
    · -- 39 := Op.call { value (Operand.func 29), args := #[t37, t38], argTypes := #[29, 29] }
      have e37 := hs 9 37 (needs_direct (by kernel_rfl)) rfl; have e38 := hs 10 38 (needs_direct (by kernel_rfl)) rfl; have gg := hs 8 36 (needs_direct (by kernel_rfl)) rfl; simp [Act.eval] at e37 e38 gg; replace gg := opt_bool gg
      go_simp
      refine (c_btag root en w2 (HP.out.ext hle)).mono ?_
      rintro z w9 ⟨rfl, b9⟩
      rw [HT1.out]
      exact hK _ _ b9 rfl
    · -- 40 := Op.load 29 t3
      have e3 := hf 3 rfl; have gg := hs 8 36 (needs_direct (by kernel_rfl)) rfl; simp [Act.eval] at e3 gg; replace gg := opt_bool gg
      have hq : agg? w2 ⟨w.heap.size, 0, none⟩ 32 = some (tgC root) := (agg_of_row (hle.heap HA.out) 0 32 (by decide)).trans (tgC_part root)
      go_simp; exact hK _ _ (Ext.refl _) rfl
    · -- 41 := Op.load 29 t4
      have e4 := hf 4 rfl; have gg := hs 8 36 (needs_direct (by kernel_rfl)) rfl; simp [Act.eval] at e4 gg; replace gg := opt_bool gg
      have hq : agg? w2 ⟨w.heap.size + 1, 0, none⟩ 32 = some (tgC en) := (agg_of_row (hle.heap HB.out) 0 32 (by decide)).trans (tgC_part en)
      go_simp; exact hK _ _ (Ext.refl _) rfl
    · -- 42 := Op.call { value (Operand.func 30), args := #[t40, t41], argTypes := #[29, 29] }
      have e40 := hs 12 40 (needs_direct (by kernel_rfl)) rfl; have e41 := hs 13 41 (needs_direct (by kernel_rfl)) rfl; have gg := hs 8 36 (needs_direct (by kernel_rfl)) rfl; simp [Act.eval] at e40 e41 gg; replace gg := opt_bool gg
      go_simp
      refine (c_r21tag root en w2).mono ?_
      rintro z w9 ⟨rfl, b9⟩
      rw [HT1.out]
      exact hK _ _ b9 rfl
    · -- 43 := Op.binOp BinOp.eql 29 t39 t42 29
      have e39 := hs 11 39 (needs_direct (by kernel_rfl)) rfl; have e42 := hs 14 42 (needs_direct (by kernel_rfl)) rfl; have gg := hs 8 36 (needs_direct (by kernel_rfl)) rfl; simp [Act.eval] at e39 e42 gg; replace gg := opt_bool gg
      have hq := tg_in w2 t1 t1
      rw [decide_eq_true rfl] at hq
      go_simp; exact hK _ _ (Ext.refl _) rfl
    · -- 44 := Op.pick t36 t43 (const (Value.bool false))
      have e36 := hs 8 36 (needs_direct (by kernel_rfl)) rfl; have e43 := hs 15 43 (needs_direct (by kernel_rfl)) rfl; simp [Act.eval] at e36 e43
      go_simp; exact hK _ _ (Ext.refl _) rfl
    · -- 45 := Op.move t44
      have e44 := hs 16 44 (needs_direct (by kernel_rfl)) rfl; simp [Act.eval] at e44
      go_simp; exact hK _ _ (Ext.refl _) rfl
    · -- 46 := Op.load 29 t3
      have e3 := hf 3 rfl; have gg := hs 17 45 (needs_direct (by kernel_rfl)) rfl; simp [Act.eval] at e3 gg; replace gg := opt_bool gg
      have hq : agg? w2 ⟨w.heap.size, 0, none⟩ 32 = some (tgC root) := (agg_of_row (hle.heap HA.out) 0 32 (by decide)).trans (tgC_part root)
      go_simp; exact hK _ _ (Ext.refl _) rfl
    · -- 47 := Op.load 29 t4
      have e4 := hf 4 rfl; have gg := hs 17 45 (needs_direct (by kernel_rfl)) rfl; simp [Act.eval] at e4 gg; replace gg := opt_bool gg
      have hq : agg? w2 ⟨w.heap.size + 1, 0, none⟩ 32 = some (tgC en) := (agg_of_row (hle.heap HB.out) 0 32 (by decide)).trans (tgC_part en)
      go_simp; exact hK _ _ (Ext.refl _) rfl
    · -- 48 := Op.load 44 t5
      have e5 := hf 5 rfl; have gg := hs 17 45 (needs_direct (by kernel_rfl)) rfl; simp [Act.eval] at e5 gg; replace gg := opt_bool gg
      have hq : agg? w2 ⟨w.heap.size + 2, 0, none⟩ 36 = some (tokA d A n c) := (agg_of_row (hle.heap HD.out) 0 36 (by decide)).trans (tokC_part _ _ _ _ _)
      go_simp; exact hK _ _ (Ext.refl _) rfl
    · -- 49 := Op.call { value (Operand.func 31), args := #[t46, t47, t48], argTypes := #[29, 29, 44] }
      have e46 := hs 18 46 (needs_direct (by kernel_rfl)) rfl; have e47 := hs 19 47 (needs_direct (by kernel_rfl)) rfl; have e48 := hs 20 48 (needs_direct (by kernel_rfl)) rfl; have gg := hs 17 45 (needs_direct (by kernel_rfl)) rfl; simp [Act.eval] at e46 e47 e48 gg; replace gg := opt_bool gg
      go_simp
      refine (c_fits root en d A n c w2 (HP.out.ext hle)).mono ?_
      rintro z w9 ⟨rfl, b9⟩
      rw [HQ.out]
      exact hK _ _ b9 rfl
    · -- 50 := Op.load 29 t3
      have e3 := hf 3 rfl; have gg := hs 17 45 (needs_direct (by kernel_rfl)) rfl; simp [Act.eval] at e3 gg; replace gg := opt_bool gg
      have hq : agg? w2 ⟨w.heap.size, 0, none⟩ 32 = some (tgC root) := (agg_of_row (hle.heap HA.out) 0 32 (by decide)).trans (tgC_part root)
      go_simp; exact hK _ _ (Ext.refl _) rfl
    · -- 51 := Op.load 29 t4
      have e4 := hf 4 rfl; have gg := hs 17 45 (needs_direct (by kernel_rfl)) rfl; simp [Act.eval] at e4 gg; replace gg := opt_bool gg
      have hq : agg? w2 ⟨w.heap.size + 1, 0, none⟩ 32 = some (tgC en) := (agg_of_row (hle.heap HB.out) 0 32 (by decide)).trans (tgC_part en)
      go_simp; exact hK _ _ (Ext.refl _) rfl
    · -- 52 := Op.load 44 t5
      have e5 := hf 5 rfl; have gg := hs 17 45 (needs_direct (by kernel_rfl)) rfl; simp [Act.eval] at e5 gg; replace gg := opt_bool gg
      have hq : agg? w2 ⟨w.heap.size + 2, 0, none⟩ 36 = some (tokA d A n c) := (agg_of_row (hle.heap HD.out) 0 36 (by decide)).trans (tokC_part _ _ _ _ _)
      go_simp; exact hK _ _ (Ext.refl _) rfl
    · -- 53 := Op.call { value (Operand.func 32), args := #[t50, t51, t52], argTypes := #[29, 29, 44] }
      have e50 := hs 22 50 (needs_direct (by kernel_rfl)) rfl; have e51 := hs 23 51 (needs_direct (by kernel_rfl)) rfl; have e52 := hs 24 52 (needs_direct (by kernel_rfl)) rfl; have gg := hs 17 45 (needs_direct (by kernel_rfl)) rfl; simp [Act.eval] at e50 e51 e52 gg; replace gg := opt_bool gg
      go_simp
      refine (c_rfits root en d A n c w2).mono ?_
      rintro z w9 ⟨rfl, b9⟩
      rw [HQ.out]
      exact hK _ _ b9 rfl
    · -- 54 := Op.binOp BinOp.eql 4 t49 t53 4
      have e49 := hs 21 49 (needs_direct (by kernel_rfl)) rfl; have e53 := hs 25 53 (needs_direct (by kernel_rfl)) rfl; have gg := hs 17 45 (needs_direct (by kernel_rfl)) rfl; simp [Act.eval] at e49 e53 gg; replace gg := opt_bool gg
      go_simp; exact hK _ _ (Ext.refl _) rfl
    · -- 55 := Op.pick t45 t54 (const (Value.bool false))
      have e45 := hs 17 45 (needs_direct (by kernel_rfl)) rfl; have e54 := hs 26 54 (needs_direct (by kernel_rfl)) rfl; simp [Act.eval] at e45 e54
      go_simp; exact hK _ _ (Ext.refl _) rfl
    · -- 56 := Op.move t55
      have e55 := hs 27 55 (needs_direct (by kernel_rfl)) rfl; simp [Act.eval] at e55
      go_simp; exact hK _ _ (Ext.refl _) rfl
    · -- 57 := Op.load 29 t3
      have e3 := hf 3 rfl; have gg := hs 28 56 (needs_direct (by kernel_rfl)) rfl; simp [Act.eval] at e3 gg; replace gg := opt_bool gg
      have hq : agg? w2 ⟨w.heap.size, 0, none⟩ 32 = some (tgC root) := (agg_of_row (hle.heap HA.out) 0 32 (by decide)).trans (tgC_part root)
      go_simp; exact hK _ _ (Ext.refl _) rfl
    · -- 58 := Op.fieldAddr 44 t5 4
      have e5 := hf 5 rfl; have gg := hs 28 56 (needs_direct (by kernel_rfl)) rfl; simp [Act.eval] at e5 gg; replace gg := opt_bool gg
      go_simp; exact hK _ _ (Ext.refl _) rfl
    · -- 59 := Op.load 29 t58
      have e58 := hs 30 58 (needs_direct (by kernel_rfl)) rfl; have gg := hs 28 56 (needs_direct (by kernel_rfl)) rfl; simp [Act.eval] at e58 gg; replace gg := opt_bool gg
      have hq : agg? w2 ⟨w.heap.size + 2, 4, none⟩ 32 = some (tgC d.tag) := (agg_of_row (hle.heap HD.out) 4 32 (by decide)).trans (tokC_tag _ _ _ _ _)
      go_simp; exact hK _ _ (Ext.refl _) rfl
    · -- 60 := Op.load 44 t5
      have e5 := hf 5 rfl; have gg := hs 28 56 (needs_direct (by kernel_rfl)) rfl; simp [Act.eval] at e5 gg; replace gg := opt_bool gg
      have hq : agg? w2 ⟨w.heap.size + 2, 0, none⟩ 36 = some (tokA d A n c) := (agg_of_row (hle.heap HD.out) 0 36 (by decide)).trans (tokC_part _ _ _ _ _)
      go_simp; exact hK _ _ (Ext.refl _) rfl
    · -- 61 := Op.call { value (Operand.func 31), args := #[t57, t59, t60], argTypes := #[29, 29, 44] }
      have e57 := hs 29 57 (needs_direct (by kernel_rfl)) rfl; have e59 := hs 31 59 (needs_direct (by kernel_rfl)) rfl; have e60 := hs 32 60 (needs_direct (by kernel_rfl)) rfl; have gg := hs 28 56 (needs_direct (by kernel_rfl)) rfl; simp [Act.eval] at e57 e59 e60 gg; replace gg := opt_bool gg
      go_simp
      refine (c_fits root d.tag d A n c w2 (HP.out.ext hle)).mono ?_
      rintro z w9 ⟨rfl, b9⟩
      rw [HRR.out]
      exact hK _ _ b9 rfl
    · -- 62 := Op.load 29 t3
      have e3 := hf 3 rfl; have gg := hs 28 56 (needs_direct (by kernel_rfl)) rfl; simp [Act.eval] at e3 gg; replace gg := opt_bool gg
      have hq : agg? w2 ⟨w.heap.size, 0, none⟩ 32 = some (tgC root) := (agg_of_row (hle.heap HA.out) 0 32 (by decide)).trans (tgC_part root)
      go_simp; exact hK _ _ (Ext.refl _) rfl
    · -- 63 := Op.fieldAddr 44 t5 4
      have e5 := hf 5 rfl; have gg := hs 28 56 (needs_direct (by kernel_rfl)) rfl; simp [Act.eval] at e5 gg; replace gg := opt_bool gg
      go_simp; exact hK _ _ (Ext.refl _) rfl
    · -- 64 := Op.load 29 t63
      have e63 := hs 35 63 (needs_direct (by kernel_rfl)) rfl; have gg := hs 28 56 (needs_direct (by kernel_rfl)) rfl; simp [Act.eval] at e63 gg; replace gg := opt_bool gg
      have hq : agg? w2 ⟨w.heap.size + 2, 4, none⟩ 32 = some (tgC d.tag) := (agg_of_row (hle.heap HD.out) 4 32 (by decide)).trans (tokC_tag _ _ _ _ _)
      go_simp; exact hK _ _ (Ext.refl _) rfl
    · -- 65 := Op.load 44 t5
      have e5 := hf 5 rfl; have gg := hs 28 56 (needs_direct (by kernel_rfl)) rfl; simp [Act.eval] at e5 gg; replace gg := opt_bool gg
      have hq : agg? w2 ⟨w.heap.size + 2, 0, none⟩ 36 = some (tokA d A n c) := (agg_of_row (hle.heap HD.out) 0 36 (by decide)).trans (tokC_part _ _ _ _ _)
      go_simp; exact hK _ _ (Ext.refl _) rfl
    · -- 66 := Op.call { value (Operand.func 32), args := #[t62, t64, t65], argTypes := #[29, 29, 44] }
      have e62 := hs 34 62 (needs_direct (by kernel_rfl)) rfl; have e64 := hs 36 64 (needs_direct (by kernel_rfl)) rfl; have e65 := hs 37 65 (needs_direct (by kernel_rfl)) rfl; have gg := hs 28 56 (needs_direct (by kernel_rfl)) rfl; simp [Act.eval] at e62 e64 e65 gg; replace gg := opt_bool gg
      go_simp
      refine (c_rfits root d.tag d A n c w2).mono ?_
      rintro z w9 ⟨rfl, b9⟩
      rw [HRR.out]
      exact hK _ _ b9 rfl
    · -- 67 := Op.binOp BinOp.eql 4 t61 t66 4
      have e61 := hs 33 61 (needs_direct (by kernel_rfl)) rfl; have e66 := hs 38 66 (needs_direct (by kernel_rfl)) rfl; have gg := hs 28 56 (needs_direct (by kernel_rfl)) rfl; simp [Act.eval] at e61 e66 gg; replace gg := opt_bool gg
      go_simp; exact hK _ _ (Ext.refl _) rfl
    · -- 68 := Op.pick t56 t67 (const (Value.bool false))
      have e56 := hs 28 56 (needs_direct (by kernel_rfl)) rfl; have e67 := hs 39 67 (needs_direct (by kernel_rfl)) rfl; simp [Act.eval] at e56 e67
      go_simp; exact hK _ _ (Ext.refl _) rfl
  intro vs w8 hle hs
  have v40 := hs 40 (by omega) rfl
  simp only at v40
  clear hs
  have HB9 := hide (HB6.out.trans (hle.mono HB6.out.size))
  clear hle
  simp only [putN, dstAt]
  go_simp
  go_wp2_with fail
  go_ret
  exact ⟨rfl, HB9.out⟩
end Go.Proofs.YtdkeflhgengblaaDoor
namespace Go.Proofs.YtdkeflhgengblaaDoor
open Go.RowKit
attribute [local go_sem ↓] ld16 ld17 ld32 ld36 ld37
attribute [local go_sem] run_ldAgg run_storeAgg agg_alloc_at agg_alloc_past agg_drew agg_setCell row_alloc_at row_alloc_past row_drew setRow_alloc_at setRow_alloc_past setRow_drew agg_setRow_at agg_setRow_far cell_setRow_at cell_setRow_far row_setRow_far size_setRow tgC_size tgC_one tgC_part tgC_splice tokC_size tokC_0 tokC_1 tokC_2 tokC_3 tokC_g0 tokC_g1 tokC_g2 tokC_g3 tokC_part tokC_tag tokC_set0 tokC_set1 tokC_set2 tokC_set3 tokC_splice tokC_splice0 tgC_splice_any zero_tg zero_tok tokC_all tokC_ne tgC_ne
attribute [local go_sem] bunC_size bunC_0 bunC_1 bunC_2 bunC_3 bunC_36 bunC_g3 bunC_g36 bunC_part bunC_root bunC_set36 bunC_splice bunC_splice0 zero_bun bunC_all bunC_ne

set_option maxRecDepth 100000 in
set_option maxHeartbeats 800000 in
theorem c_rbsame (x y : Bun) (A B C D : Option Addr) (n c m d n' c' m' d' : Nat) (ok1 ok2 ok3 ok4 : Nat → Prop) (w : World) (h1 : kCav.Row ok1 w A n c x.root.cavs) (h2 : kTok.Row ok2 w B m d x.dis) (h3 : kCav.Row ok3 w C n' c' y.root.cavs) (h4 : kTok.Row ok4 w D m' d' y.dis) :
    Calls Tryd.prog 43 #[bunV x A n c B m d, bunV y C n' c' D m' d'] w fun e w' => e = .returned (.bool (decide (x = y))) ∧ Below w.heap.size w w' := by
  have HLX := hide h2.1
  have HLY := hide h4.1
  have hbx : m ≤ maxLen := Nat.le_trans h2.2.1 h2.2.2.1
  simp only [maxLen] at hbx
  have H1 := hide h1
  have H2 := hide h2
  have H3 := hide h3
  have H4 := hide h4
  clear h1 h2 h3 h4
  go_enter Tryd.func43, Tryd.ntmps43
  go_wp2_with fail
  refine (c_rsame x.root y.root A C n c n' c' _ _ _ (H1.out.below (below2 _ _ _)) (H3.out.below (below2 _ _ _))).mono ?_
  rintro e w1 ⟨rfl, b1⟩
  have HB1 := hide (bnext (below2 _ _ _) b1)
  have hX : BunIn w1 w.heap.size x A n c B m d := (b1.block _ (by simp; omega)).trans ((Below.heap_alloc _ _ _ (by simp)).trans (heap_alloc_new _ _))
  have hY : BunIn w1 (w.heap.size + 1) y C n' c' D m' d' := (b1.block _ (by simp)).trans (heap_new2 _ _ _)
  have hx := hX.dis
  have hy := hY.dis
  clear b1 hX hY
  by_cases hr : x.root = y.root
  · have HE : Hid (decide (x = y) = decide (x.dis = y.dis)) := hide (by
      rw [Bool.eq_iff_iff]
      cases x; cases y
      simp only [decide_eq_true_eq, Bun.mk.injEq] at hr ⊢
      simp [hr])
    rw [decide_eq_true hr]
    clear hr
    by_cases hl : m = m'
    · subst hl
      go_wp2_with fail
      go_loopw [24] (fun i wr => ∃ k : Nat, k ≤ m ∧ i = .int .i64 (k : Int) ∧ Hid (x.dis.take k = y.dis.take k) ∧ Hid (Below w.heap.size w wr) ∧ Hid (wr.cell? ⟨w.heap.size, 36, none⟩ = some (.slice B m d)) ∧ Hid (wr.cell? ⟨w.heap.size + 1, 36, none⟩ = some (.slice D m d'))) (fun i _ => m - (intOf i).toNat)
      case atStart => exact ⟨0, Nat.zero_le _, rfl, hide rfl, HB1, hide hx, hide hy⟩
      case round =>
        obtain ⟨k, hk, rfl, HE1, HB, HB2, HB3⟩ := hrel
        by_cases hlt : k < m
        · obtain ⟨p, hp⟩ : ∃ p, x.dis[k]? = some p := ⟨_, List.getElem?_eq_getElem (by have := HLX.out; omega)⟩
          obtain ⟨r, hr⟩ : ∃ r, y.dis[k]? = some r := ⟨_, List.getElem?_eq_getElem (by have := HLY.out; omega)⟩
          obtain ⟨b1, q1, A1, n1, c1, hix1, hbl1, hag1, hr1, hk1⟩ := tok_at (H2.out.below HB.out) hp
          obtain ⟨b2, q2, A2, n2, c2, hix2, hbl2, hag2, hr2, hk2⟩ := tok_at (H4.out.below HB.out) hr
          have HP := hide hp
          have HR := hide hr
          have HR1 := hide hr1
          have HR2 := hide hr2
          clear hp hr hr1 hr2
          go_wp2_with fail
          refine wp_region_ext mixed 12 (fun i v w' => match i with
            | 0 => v = .pointer (some ⟨w.heap.size, 36, none⟩)
            | 1 => v = .slice B m d
            | 2 => v = .int .i64 (k : Int)
            | 3 => v = .pointer (some ⟨b1, q1, none⟩)
            | 4 => v = tokV p A1 n1 c1
            | 5 => v = .pointer (some ⟨w.heap.size + 1, 36, none⟩)
            | 6 => v = .slice D m d'
            | 7 => v = .int .i64 (k : Int)
            | 8 => v = .pointer (some ⟨b2, q2, none⟩)
            | 9 => v = tokV r A2 n2 c2
            | 10 => v = .bool (decide (p = r))
            | _ => v = .bool (!decide (p = r))
            ) (by kernel_rfl) rfl ?_ ?_ ?_
          · intro i v w1 w2 h1 h2
            split at h2 <;> exact h2
          · refine ⟨fun a w2 hle hd hf hs K hK => ?_, fun a w2 hle hd hf hs K hK => ?_, fun a w2 hle hd hf hs K hK => ?_, fun a w2 hle hd hf hs K hK => ?_, fun a w2 hle hd hf hs K hK => ?_, fun a w2 hle hd hf hs K hK => ?_, fun a w2 hle hd hf hs K hK => ?_, fun a w2 hle hd hf hs K hK => ?_, fun a w2 hle hd hf hs K hK => ?_, fun a w2 hle hd hf hs K hK => ?_, fun a w2 hle hd hf hs K hK => ?_, fun a w2 hle hd hf hs K hK => ?_, trivial⟩
            all_goals clear hd
            · -- 27 := Op.fieldAddr 70 t2 1
              have e2 := hf 2 rfl; simp [Act.eval] at e2
              go_simp; exact hK _ _ (Ext.refl _) rfl
            · -- 28 := Op.load 68 t27
              have e27 := hs 0 27 (by kernel_rfl) rfl; simp [Act.eval] at e27
              have hc : w2.cell? ⟨w.heap.size, 36, none⟩ = some (.slice B m d) := hle.cell HB2.out
              go_simp; exact hK _ _ (Ext.refl _) rfl
            · -- 29 := Op.move t5
              have e5 := hf 5 rfl; simp [Act.eval] at e5
              go_simp; exact hK _ _ (Ext.refl _) rfl
            · -- 30 := Op.indexAddr 68 t28 t29
              have e28 := hs 1 28 (by kernel_rfl) rfl; have e29 := hs 2 29 (by kernel_rfl) rfl; simp [Act.eval] at e28 e29
              go_simp; exact hK _ _ (Ext.refl _) rfl
            · -- 31 := Op.load 59 t30
              have e30 := hs 3 30 (by kernel_rfl) rfl; simp [Act.eval] at e30
              have hq : agg? w2 ⟨b1, q1, none⟩ 36 = some (tokA p A1 n1 c1) := (agg_block (hle.block _ hbl1)).trans hag1
              go_simp; exact hK _ _ (Ext.refl _) rfl
            · -- 32 := Op.fieldAddr 70 t3 1
              have e3 := hf 3 rfl; simp [Act.eval] at e3
              go_simp; exact hK _ _ (Ext.refl _) rfl
            · -- 33 := Op.load 68 t32
              have e32 := hs 5 32 (by kernel_rfl) rfl; simp [Act.eval] at e32
              have hc : w2.cell? ⟨w.heap.size + 1, 36, none⟩ = some (.slice D m d') := hle.cell HB3.out
              go_simp; exact hK _ _ (Ext.refl _) rfl
            · -- 34 := Op.move t5
              have e5 := hf 5 rfl; simp [Act.eval] at e5
              go_simp; exact hK _ _ (Ext.refl _) rfl
            · -- 35 := Op.indexAddr 68 t33 t34
              have e33 := hs 6 33 (by kernel_rfl) rfl; have e34 := hs 7 34 (by kernel_rfl) rfl; simp [Act.eval] at e33 e34
              go_simp; exact hK _ _ (Ext.refl _) rfl
            · -- 36 := Op.load 59 t35
              have e35 := hs 8 35 (by kernel_rfl) rfl; simp [Act.eval] at e35
              have hq : agg? w2 ⟨b2, q2, none⟩ 36 = some (tokA r A2 n2 c2) := (agg_block (hle.block _ hbl2)).trans hag2
              go_simp; exact hK _ _ (Ext.refl _) rfl
            · -- 37 := Op.call { value (Operand.func 38), args := #[t31, t36], argTypes := #[59, 59] }
              have e31 := hs 4 31 (by kernel_rfl) rfl; have e36 := hs 9 36 (by kernel_rfl) rfl; simp [Act.eval] at e31 e36
              go_simp
              refine (c_rsame p r A1 A2 n1 c1 n2 c2 _ _ w2 (HR1.out.below hle) (HR2.out.below hle)).mono ?_
              rintro e w3 ⟨rfl, b3⟩
              exact hK _ _ b3 rfl
            · -- 38 := Op.unOp UnOp.not 4 t37
              have e37 := hs 10 37 (by kernel_rfl) rfl; simp [Act.eval] at e37
              go_simp; exact hK _ _ (Ext.refl _) rfl
          intro vs w8 hle hs
          have v11 := hs 11 (by omega) rfl
          simp only at v11
          clear hs

          have HB8 := hide (HB.out.trans (hle.mono HB.out.size))
          have HC8 := hide (hle.cell HB2.out)
          have HD8 := hide (hle.cell HB3.out)
          clear hle
          by_cases hpr : p = r
          · subst hpr
            have HE2 : Hid (x.dis.take (k + 1) = y.dis.take (k + 1)) := hide (by
              rw [List.take_add_one, List.take_add_one, HP.out, HR.out, HE1.out])
            simp only [decide_true] at v11
            simp only [putN, dstAt]
            go_simp
            go_wp2_with fail
            go_roundw
            case rel => exact ⟨k + 1, by omega, by simp, HE2, HB8, HC8, HD8⟩
            case measure => simp [intOf]; omega
          · have HF : Hid (decide (x.dis = y.dis) = false) := hide (decide_eq_false fun e => by
              have h1 := HP.out
              rw [e, HR.out] at h1
              exact hpr (Option.some.inj h1).symm)
            rw [decide_eq_false hpr] at v11
            clear hpr
            simp only [putN, dstAt]
            go_simp
            go_wp2_with fail
            go_ret
            exact ⟨by rw [HE.out, HF.out]; rfl, HB8.out⟩
        · obtain rfl : k = m := by omega
          have HF : Hid (decide (x.dis = y.dis) = true) := hide (decide_eq_true (by
            have := HE1.out
            rwa [List.take_of_length_le (Nat.le_of_eq HLX.out), List.take_of_length_le (Nat.le_of_eq HLY.out)] at this))
          go_wp2_with fail
          go_ret
          exact ⟨by rw [HE.out, HF.out]; rfl, HB.out⟩
    · have HF : Hid (decide (x.dis = y.dis) = false) := hide (decide_eq_false fun e => hl (by rw [← HLX.out, ← HLY.out, e]))
      go_wp2_with fail
      go_ret
      exact ⟨by rw [HE.out, HF.out]; rfl, HB1.out⟩
  · have HE : Hid (decide (x = y) = false) := hide (decide_eq_false fun e => hr (by rw [e]))
    rw [decide_eq_false hr]
    clear hr
    go_wp2_with fail
    go_ret
    exact ⟨by rw [HE.out]; rfl, HB1.out⟩
end Go.Proofs.YtdkeflhgengblaaDoor
namespace Go.Proofs.YtdkeflhgengblaaDoor
open Go.RowKit
attribute [local go_sem ↓] ld8 ld32 ld64 ld73
attribute [local go_sem] run_ldAgg run_storeAgg agg_alloc_at agg_alloc_past agg_drew agg_setCell row_alloc_at row_alloc_past row_drew setRow_alloc_at setRow_alloc_past setRow_drew agg_setRow_at agg_setRow_far cell_setRow_at cell_setRow_far row_setRow_far size_setRow s8C_size s8C_part s8C_one s8C_splice0 s8C_ne dgC_size dgC_72 dgC_part dgC_h dgC_r dgC_splice_h dgC_set dgC_one dgC_splice0 dgC_ne zero_dg
attribute [local go_sem] tgC_size tgC_one tgC_part tgC_splice tgC_splice_any zero_tg tgC_ne
attribute [local go_sem ↓] ld36
attribute [local go_sem] tokC_size tokC_0 tokC_1 tokC_2 tokC_3 tokC_g0 tokC_g1 tokC_g2 tokC_g3 tokC_part tokC_tag tokC_set0 tokC_set1 tokC_set2 tokC_set3 tokC_splice tokC_splice0 zero_tok tokC_all tokC_ne
attribute [local go_sem ↓] ld37
attribute [local go_sem] bunC_size bunC_0 bunC_1 bunC_2 bunC_3 bunC_36 bunC_g3 bunC_g36 bunC_part bunC_root bunC_set36 bunC_splice bunC_splice0 zero_bun bunC_all bunC_ne

theorem bdT_twice (r : Tg) (d : Tok) : bdT r (bdT r d) = bdT r d := by
  by_cases h : d.bnd = true
  · have e : bdT r d = d := if_pos h
    rw [e, e]
  · have e : bdT r d = { d with bnd := true, tag := bindT r d.tag } := by rw [bdT, if_neg h, bindR, if_neg h]
    rw [e, bdT, if_pos rfl]
theorem bdT_check (r : Tg) (d : Tok) : checkD (bdT r d) = checkD d := by
  by_cases h : d.bnd = true
  · have e : bdT r d = d := if_pos h
    rw [e]
  · have e : bdT r d = { d with bnd := true, tag := bindT r d.tag } := by rw [bdT, if_neg h, bindR, if_neg h]
    rw [e]
    rfl
theorem allB_check {b : Bun} (h : checkB b = true) : checkB (allB b) = true := by
  rw [allB, if_pos h]
  simp only [checkB, Bool.and_eq_true, decide_eq_true_eq, List.all_eq_true] at h ⊢
  obtain ⟨⟨⟨h1, h2⟩, h3⟩, h4⟩ := h
  refine ⟨⟨⟨h1, by rw [List.length_map]; exact h2⟩, h3⟩, fun y hy => ?_⟩
  obtain ⟨d, hd, rfl⟩ := List.mem_map.1 hy
  rw [bdT_check]
  exact h4 d hd
theorem allB_twice {b : Bun} (h : checkB b = true) : allB (allB b) = allB b := by
  have h2 := allB_check h
  rw [allB, if_pos h2]
  rw [allB, if_pos h]
  simp only [List.map_map, Bun.mk.injEq, true_and]
  apply List.map_congr_left
  intro d _
  exact bdT_twice _ _
theorem allE_twice {b : Bun} (h : allE b = 0) : allE (allB b) = 0 ∧ allB (allB b) = allB b := by
  have hc : checkB b = true := by
    by_cases hc : checkB b = true
    · exact hc
    · rw [allE, if_neg hc] at h
      omega
  exact ⟨by rw [allE, if_pos (allB_check hc)], allB_twice hc⟩
theorem allE_cases (b : Bun) : allE b = 0 ∨ allE b = 1 := by
  by_cases hc : checkB b = true
  · exact .inl (if_pos hc)
  · exact .inr (if_neg hc)
set_option maxRecDepth 100000 in
set_option maxHeartbeats 3200000 in
theorem c_bindall (b : Bun) (A B : Option Addr) (n c m d : Nat) (w : World) (hR : kCav.Row (· < w.heap.size) w A n c b.root.cavs) (hS : kTok.Row (· < w.heap.size) w B m d b.dis) (hf : b.root.fits) (hg : ∀ y ∈ b.dis, y.fits) (hP : PrimesAt w) :
    Calls Tryd.prog 7 #[bunV b A n c B m d] w fun e w' => e = .returned (.bool true) ∧ Below w.heap.size w w' := by
  have HP := hide hP
  have hw0 := hP.1
  have HR := hide hR
  have HS := hide hS
  have HF := hide hf
  have HG := hide hg
  clear hR hS hf hg hP
  obtain ⟨CB, hCB⟩ : ∃ CB, CB = bunA b A n c B m d := ⟨_, rfl⟩
  have HCB := hide hCB
  have HCV : Hid (Value.agg CB = bunV b A n c B m d) := hide (by rw [hCB])
  have hzB : CB.size = 37 := by rw [hCB]; exact bunC_size _ _ _ _ _ _
  have hoB : oneAll CB = true := by rw [hCB]; exact bunC_all _ _ _ _ _ _ _ _ _ _ _
  obtain ⟨W1, hW1⟩ : ∃ W1, W1 = w.alloc (.cells CB 61) := ⟨_, rfl⟩
  have HB1 : Hid (Below w.heap.size w W1) := hide (by rw [hW1]; exact below1 _ _)
  have hs1 : W1.heap.size = w.heap.size + 1 := by rw [hW1]; simp only [World.size_alloc]
  have H1 : Hid (W1.heap[w.heap.size]? = some (.cells CB 61)) := hide (by rw [hW1]; exact heap_alloc_new _ _)
  rw [← HCV.out]
  have HW1 := hide hW1
  clear hCB hW1
  go_enter Tryd.func7, Tryd.ntmps7
  go_wp2_with fail
  rw [← HW1.out]
  refine (c_bindalive W1 (HP.out.ext HB1.out)).mono ?_
  rintro e w2 ⟨rfl, b2⟩
  have hs2 := b2.size
  have H2 := hide ((b2.block _ (by omega)).trans H1.out)
  have HB2 := hide (HB1.out.trans (b2.mono (by omega)))
  have hw2 : w.heap.size + 1 ≤ w2.heap.size := by omega
  have hag2 : agg? w2 ⟨w.heap.size, 0, none⟩ 37 = some CB := (agg_of_row H2.out 0 37 (by decide)).trans (by rw [HCB.out]; exact bunC_part _ _ _ _ _ _)
  clear b2 H1 HB1 HW1
  go_wp2_with fail
  rw [HCV.out]
  refine (c_large2 b A B n c m d _ _ w2 (HR.out.belowB HB2.out) (HS.out.belowB HB2.out) HF.out HG.out).mono ?_
  rintro e w3 ⟨rfl, b3⟩
  rw [← HCV.out]
  have hs3 := b3.size
  have H3 := hide ((b3.block _ (by omega)).trans H2.out)
  have HB3 := hide (HB2.out.trans (b3.mono (by omega)))
  have hw3 : w.heap.size + 1 ≤ w3.heap.size := by omega
  have hag3 : agg? w3 ⟨w.heap.size, 0, none⟩ 37 = some CB := (agg_of_row H3.out 0 37 (by decide)).trans (by rw [HCB.out]; exact bunC_part _ _ _ _ _ _)
  clear b3 H2 HB2 hag2
  cases hl : large b with
  | true =>
    rw [show greatV true = .int .i64 1 from rfl]
    clear hl
    go_wp2_with fail
    go_ret
    exact ⟨rfl, HB3.out⟩
  | false =>
    rw [show greatV false = .int .i64 0 from rfl]
    clear hl
    obtain ⟨X, hX⟩ : ∃ X, allB b = X := ⟨_, rfl⟩
    obtain ⟨e0, he0⟩ : ∃ e0, allE b = e0 := ⟨_, rfl⟩
    have HX := hide hX
    have HE := hide he0
    have hcase := allE_cases b
    rw [he0] at hcase
    have HC := hide hcase
    clear hX he0 hcase
    go_wp2_with fail
    rw [HCV.out]
    refine (c_ball b A B n c m d _ _ w3 (HR.out.belowB HB3.out) (HS.out.belowB HB3.out) (HP.out.ext HB3.out)).mono ?_
    rintro e w4 ⟨A1, n1, c1, B1, m1, d1, rfl, hr1, ht1, b4⟩
    rw [HX.out] at hr1 ht1
    rw [HX.out, HE.out, ← HCV.out]
    obtain ⟨CX, hCX⟩ : ∃ CX, CX = bunA X A1 n1 c1 B1 m1 d1 := ⟨_, rfl⟩
    have HCX := hide hCX
    have HXV : Hid (Value.agg CX = bunV X A1 n1 c1 B1 m1 d1) := hide (by rw [hCX])
    rw [← HXV.out]
    have hzX : CX.size = 37 := by rw [hCX]; exact bunC_size _ _ _ _ _ _
    have hoX : oneAll CX = true := by rw [hCX]; exact bunC_all _ _ _ _ _ _ _ _ _ _ _
    have hspX : splice bunZ 0 CX = CX := by rw [hCX]; exact bunC_splice0 _ _ _ _ _ _ _ (bunC_size _ _ _ _ _ _)
    have hs4 := b4.size
    have b45 : Below w3.heap.size w3 (w4.alloc (.cells CX 61)) := b4.alloc hs4 _
    have H5 := hide ((b45.block _ (by omega)).trans H3.out)
    have HX5 := hide (heap_alloc_new w4 (.cells CX 61))
    have HB5 := hide (HB3.out.trans (b45.mono (by omega)))
    have HR5 := hide (hr1.alloc (.cells CX 61))
    have HT5 := hide (ht1.alloc (.cells CX 61))
    have hag5 : agg? (w4.alloc (.cells CX 61)) ⟨w.heap.size, 0, none⟩ 37 = some CB := (agg_of_row H5.out 0 37 (by decide)).trans (by rw [HCB.out]; exact bunC_part _ _ _ _ _ _)
    clear b4 b45 hr1 ht1 H3 HB3 hag3 hCX
    go_wp2_with fail
    rw [HCV.out]
    refine (c_rball b A B n c m d _ _ _ (HR.out.belowB HB5.out) (HS.out.belowB HB5.out)).mono ?_
    rintro e w6 ⟨A2, n2, c2, B2, m2, d2, rfl, hr2, ht2, b6⟩
    rw [HX.out] at hr2 ht2
    rw [HX.out, HE.out, ← HCV.out]
    obtain ⟨CY, hCY⟩ : ∃ CY, CY = bunA X A2 n2 c2 B2 m2 d2 := ⟨_, rfl⟩
    have HCY := hide hCY
    have HYV : Hid (Value.agg CY = bunV X A2 n2 c2 B2 m2 d2) := hide (by rw [hCY])
    rw [← HYV.out]
    have hzY : CY.size = 37 := by rw [hCY]; exact bunC_size _ _ _ _ _ _
    have hoY : oneAll CY = true := by rw [hCY]; exact bunC_all _ _ _ _ _ _ _ _ _ _ _
    have hspY : splice bunZ 0 CY = CY := by rw [hCY]; exact bunC_splice0 _ _ _ _ _ _ _ (bunC_size _ _ _ _ _ _)
    have hs6 := b6.size
    simp only [World.size_alloc] at hs6
    have b57 : Below (w4.heap.size + 1) (w4.alloc (.cells CX 61)) (w6.alloc (.cells CY 61)) := by simp only [World.size_alloc] at b6; exact b6.alloc hs6 _
    have HX7 := hide ((b57.block _ (by omega)).trans HX5.out)
    have HY7 := hide (heap_alloc_new w6 (.cells CY 61))
    have HB7 := hide (HB5.out.trans (b57.mono (by omega)))
    have HR7 := hide (HR5.out.below (w' := w6.alloc (.cells CY 61)) (by rw [World.size_alloc]; exact b57))
    have HT7 := hide (HT5.out.below (w' := w6.alloc (.cells CY 61)) (by rw [World.size_alloc]; exact b57))
    have HRY7 := hide (hr2.alloc (.cells CY 61))
    have HTY7 := hide (ht2.alloc (.cells CY 61))
    have hag7 : agg? (w6.alloc (.cells CY 61)) ⟨w4.heap.size, 0, none⟩ 37 = some CX := (agg_of_row HX7.out 0 37 (by decide)).trans (by rw [HCX.out]; exact bunC_part _ _ _ _ _ _)
    clear b6 b57 hr2 ht2 H5 HX5 HB5 HR5 HT5 hag5 hCY
    go_wp2_with fail
    rw [HXV.out]
    refine (c_ball X A1 B1 n1 c1 m1 d1 _ _ _ HR7.out HT7.out (HP.out.ext HB7.out)).mono ?_
    rintro e w8 ⟨A3, n3, c3, B3, m3, d3, rfl, hr3, ht3, b8⟩
    rw [← HXV.out]
    obtain ⟨Z, hZ⟩ : ∃ Z, allB X = Z := ⟨_, rfl⟩
    obtain ⟨e2, he2⟩ : ∃ e2, allE X = e2 := ⟨_, rfl⟩
    rw [hZ] at hr3 ht3
    rw [hZ, he2]
    obtain ⟨CZ, hCZ⟩ : ∃ CZ, CZ = bunA Z A3 n3 c3 B3 m3 d3 := ⟨_, rfl⟩
    have HZV : Hid (Value.agg CZ = bunV Z A3 n3 c3 B3 m3 d3) := hide (by rw [hCZ])
    rw [← HZV.out]
    have hzZ : CZ.size = 37 := by rw [hCZ]; exact bunC_size _ _ _ _ _ _
    have hoZ : oneAll CZ = true := by rw [hCZ]; exact bunC_all _ _ _ _ _ _ _ _ _ _ _
    have hspZ : splice bunZ 0 CZ = CZ := by rw [hCZ]; exact bunC_splice0 _ _ _ _ _ _ _ (bunC_size _ _ _ _ _ _)
    have hs8 := b8.size
    simp only [World.size_alloc] at hs8
    have b79 : Below (w6.heap.size + 1) (w6.alloc (.cells CY 61)) (w8.alloc (.cells CZ 61)) := by simp only [World.size_alloc] at b8; exact b8.alloc hs8 _
    have k9x := (b79.block _ (by omega)).trans HX7.out
    have k9y := (b79.block _ (by omega)).trans HY7.out
    have k9z := heap_alloc_new w8 (.cells CZ 61)
    have HB9 := hide (HB7.out.trans (b79.mono (by omega)))
    have HR9 := hide (HR7.out.below (w' := w8.alloc (.cells CZ 61)) (by rw [World.size_alloc]; exact b79))
    have HT9 := hide (HT7.out.below (w' := w8.alloc (.cells CZ 61)) (by rw [World.size_alloc]; exact b79))
    have HRY9 := hide (HRY7.out.below (w' := w8.alloc (.cells CZ 61)) (by rw [World.size_alloc]; exact b79))
    have HTY9 := hide (HTY7.out.below (w' := w8.alloc (.cells CZ 61)) (by rw [World.size_alloc]; exact b79))
    have HRZ9 := hide (hr3.alloc (.cells CZ 61))
    have HTZ9 := hide (ht3.alloc (.cells CZ 61))
    have hag9x : agg? (w8.alloc (.cells CZ 61)) ⟨w4.heap.size, 0, none⟩ 37 = some CX := (agg_of_row k9x 0 37 (by decide)).trans (by rw [HCX.out]; exact bunC_part _ _ _ _ _ _)
    have hag9y : agg? (w8.alloc (.cells CZ 61)) ⟨w6.heap.size, 0, none⟩ 37 = some CY := (agg_of_row k9y 0 37 (by decide)).trans (by rw [HCY.out]; exact bunC_part _ _ _ _ _ _)
    have K9x := hide k9x
    have K9z := hide k9z
    have HLAW : Hid (e0 = 0 → e2 = 0 ∧ Z = X) := hide (fun h => by
      have := allE_twice (b := b) (HE.out.trans h)
      rw [HX.out, he2, hZ] at this
      exact this)
    have HCZ := hide hCZ
    clear hZ he2 hCZ b8 b79 hr3 ht3 k9x k9y k9z HX7 HY7 HB7 HR7 HT7 HRY7 HTY7 hag7
    go_wp2_with fail
    rw [HXV.out, HYV.out]
    refine (c_rbsame X X A1 B1 A2 B2 n1 c1 m1 d1 n2 c2 m2 d2 _ _ _ _ _ HR9.out HT9.out HRY9.out HTY9.out).mono ?_
    rintro e w10 ⟨rfl, b10⟩
    rw [decide_eq_true rfl, ← HXV.out, ← HYV.out]
    have hs10 := b10.size
    simp only [World.size_alloc] at hs10
    have HB10 := hide (HB9.out.trans (b10.mono (by simp only [World.size_alloc]; have := HB9.out.size; simp only [World.size_alloc] at this; omega)))
    have k10x := (b10.block _ (Array.getElem?_eq_some_iff.1 K9x.out).1).trans K9x.out
    have k10z := (b10.block _ (Array.getElem?_eq_some_iff.1 K9z.out).1).trans K9z.out
    have hag10x : agg? w10 ⟨w4.heap.size, 0, none⟩ 37 = some CX := (agg_of_row k10x 0 37 (by decide)).trans (by rw [HCX.out]; exact bunC_part _ _ _ _ _ _)
    have hag10z : agg? w10 ⟨w8.heap.size, 0, none⟩ 37 = some CZ := (agg_of_row k10z 0 37 (by decide)).trans (by rw [HCZ.out]; exact bunC_part _ _ _ _ _ _)
    have HR10 := hide (HR9.out.below b10)
    have HT10 := hide (HT9.out.below b10)
    have HRZ10 := hide (HRZ9.out.below b10)
    have HTZ10 := hide (HTZ9.out.below b10)
    clear b10 k10x k10z hag9x hag9y
    rcases HC.out with h0 | h0
    · obtain ⟨h2, h3⟩ := HLAW.out h0
      subst h0 h2
      have H3 := hide h3
      clear h3
      go_wp2_with fail
      rw [HZV.out, HXV.out]
      refine (c_rbsame Z X A3 B3 A1 B1 n3 c3 m3 d3 n1 c1 m1 d1 _ _ _ _ w10 HRZ10.out HTZ10.out HR10.out HT10.out).mono ?_
      rintro e w11 ⟨rfl, b11⟩
      rw [decide_eq_true H3.out]
      have HB11 := hide (HB10.out.trans (b11.mono HB10.out.size))
      clear b11
      go_wp2_with fail
      go_ret
      exact ⟨rfl, HB11.out⟩
    · subst h0
      go_wp2_with fail
      go_ret
      exact ⟨rfl, HB10.out⟩
end Go.Proofs.YtdkeflhgengblaaDoor
namespace Go.Proofs.YtdkeflhgengblaaDoor
open Go.ChangeShapes Go.WideShapes Go.ChangeAt Go.RowKit
theorem len5 {cs : List Value} (h : cs.length = 5) : ∃ a b c d e, cs = [a, b, c, d, e] := by
  match cs, h with
  | [a, b, c, d, e], _ => exact ⟨a, b, c, d, e, rfl⟩
theorem open_cav {H : Type} {enc : TypeId × Value → H} {w : World} {spare : Nat → Bool} {held : Bool} (n : Nat) (cs : List Value) (x : DataW H × List MemPlace) (h : DataW.trod enc Tryd.prog w 0 spare held n 83 cs = some x) :
    ∃ y, kCav.K (· < w.heap.size) w y cs := by
  obtain ⟨xs, m, rfl, -, hl, hx, hf⟩ := DataW.trod_struct Tryd.underlying83 h
  have c5 : Tryd.prog.cellsOf 83 = 5 := by kernel_rfl
  rw [c5] at hl
  obtain ⟨v0, v1, v2, v3, v4, rfl⟩ := len5 hl
  have hxs : xs.length = 5 := hx
  have c9 : Tryd.prog.cellsOf 9 = 1 := by kernel_rfl
  have c4 : Tryd.prog.cellsOf 4 = 1 := by kernel_rfl
  have c39 : Tryd.prog.cellsOf 41 = 1 := by kernel_rfl
  have h0 := hf 0 _ rfl
  have h1 := hf 1 _ rfl
  have h2 := hf 2 _ rfl
  have h3 := hf 3 _ rfl
  have h4 := hf 4 _ rfl
  rw [List.getElem?_eq_getElem (by omega)] at h0 h1 h2 h3 h4
  obtain ⟨b, e0, -⟩ := DataW.trod_bool Tryd.underlying4 h0
  obtain ⟨s1, e1, -, hs1⟩ := DataW.trod_string Tryd.underlying9 h1
  obtain ⟨k, e2, -, hk⟩ := DataW.trod_int Tryd.underlying41 h2
  obtain ⟨s3, e3, -, hs3⟩ := DataW.trod_string Tryd.underlying9 h3
  obtain ⟨s4, e4, -, hs4⟩ := DataW.trod_string Tryd.underlying9 h4
  simp [c4] at e0
  simp [c9] at e1 e3 e4
  simp [c39] at e2
  subst e0 e1 e2 e3 e4
  simp [Lit.wf, IntKind.min, IntKind.max, IntKind.signed, IntKind.bits] at hk
  obtain ⟨m, rfl⟩ : ∃ m : Nat, k = m := ⟨k.toNat, by omega⟩
  exact ⟨⟨b, s1, m, s3, s4⟩, rfl, hs1, by show m < _; omega, hs3, hs4⟩
theorem split4 {cs : List Value} (h : 4 ≤ cs.length) : ∃ a b c d r, cs = a :: b :: c :: d :: r := by
  match cs, h with
  | a :: b :: c :: d :: r, _ => exact ⟨a, b, c, d, r, rfl⟩
theorem open_tok {H : Type} {enc : TypeId × Value → H} {w : World} {spare : Nat → Bool} {held : Bool} (n : Nat) (cs : List Value) (x : DataW H × List MemPlace) (h : DataW.trod enc Tryd.prog w 0 spare held n 44 cs = some x) :
    ∃ (t : Tok) (A : Option Addr) (l c : Nat), cs = (tokC (.int .u64 (t.key : Int)) (.string t.id) (.slice A l c) (.bool t.bnd) t.tag).toList ∧ kCav.Row (· < w.heap.size) w A l c t.cavs ∧ t.key < 18446744073709551616 ∧ t.id.size ≤ maxLen := by
  obtain ⟨xs, m, rfl, -, hl, hx, hf⟩ := DataW.trod_struct Tryd.underlying44 h
  have c36 : Tryd.prog.cellsOf 44 = 36 := by kernel_rfl
  rw [c36] at hl
  have hxs : xs.length = 5 := hx
  have c9 : Tryd.prog.cellsOf 9 = 1 := by kernel_rfl
  have c4 : Tryd.prog.cellsOf 4 = 1 := by kernel_rfl
  have c39 : Tryd.prog.cellsOf 41 = 1 := by kernel_rfl
  have c57 : Tryd.prog.cellsOf 42 = 1 := by kernel_rfl
  have c32 : Tryd.prog.cellsOf 29 = 32 := by kernel_rfl
  have h0 := hf 0 _ rfl
  have h1 := hf 1 _ rfl
  have h2 := hf 2 _ rfl
  have h3 := hf 3 _ rfl
  have h4 := hf 4 _ rfl
  rw [List.getElem?_eq_getElem (by omega)] at h0 h1 h2 h3 h4
  obtain ⟨k, e0, -, hk⟩ := DataW.trod_int Tryd.underlying41 h0
  obtain ⟨s1, e1, -, hs1⟩ := DataW.trod_string Tryd.underlying9 h1
  obtain ⟨A, l, c, cv, e2, hr⟩ := trod_row (d := kCav) Tryd.underlying42 (by kernel_rfl) (by decide) open_cav h2
  obtain ⟨b, e3, -⟩ := DataW.trod_bool Tryd.underlying4 h3
  obtain ⟨tg, e4⟩ := open_tag _ _ _ h4
  simp [Lit.wf, IntKind.min, IntKind.max, IntKind.signed, IntKind.bits] at hk
  obtain ⟨m, rfl⟩ : ∃ m : Nat, k = m := ⟨k.toNat, by omega⟩
  refine ⟨⟨m, s1, cv, b, tg⟩, A, l, c, ?_, hr, by show m < _; omega, hs1⟩
  obtain ⟨a0, a1, a2, a3, r, rfl⟩ := split4 (cs := cs) (by omega)
  have hlr : r.length = 32 := by simpa using hl
  simp [c39] at e0
  simp [c9] at e1
  simp [c57] at e2
  simp [c4] at e3
  have e4' : r = (tgC tg).toList := by
    rw [← e4]
    simp [c32]
    rw [List.take_of_length_le (Nat.le_of_eq hlr)]
  subst e0 e1 e2 e3 e4'
  simp [tokC]
theorem row_cavs {ok : Nat → Prop} {w : World} {A : Option Addr} {n c : Nat} {xs : List Cav} (h : kCav.Row ok w A n c xs) : ∀ x ∈ xs, x.party < 18446744073709551616 := by
  intro x hx
  obtain ⟨i, hi, rfl⟩ := List.mem_iff_getElem.1 hx
  obtain ⟨b, o, _, _, _, hc⟩ := h.2.2.2 (by have := h.1; omega)
  obtain ⟨cs, hk, _⟩ := hc i _ (List.getElem?_eq_getElem hi)
  exact hk.2.2.1
end Go.Proofs.YtdkeflhgengblaaDoor
namespace Go.Proofs.YtdkeflhgengblaaDoor
open Go.ChangeShapes Go.WideShapes Go.ChangeAt Go.RowKit

def inReach {H : Type} (d : DataW H) (t : TypeId) : Prop := (d.weights Tryd.prog t).all (· ≤ reachBytes) = true
theorem each_part {H : Type} : ∀ {ts : List TypeId} {ds : List (DataW H)} {j : Nat} {t : TypeId} {d : DataW H}, (DataW.weightsEach Tryd.prog ts ds).all (· ≤ reachBytes) = true → ts[j]? = some t → ds[j]? = some d → inReach d t := by
  intro ts ds j t d h ht hd
  unfold inReach
  rw [List.all_eq_true] at h ⊢
  intro n hn
  exact h n (DataW.weights_mem_each ht hd n hn)
theorem all_mem {H : Type} : ∀ {e : TypeId} {ds : List (DataW H)} {d : DataW H}, (DataW.weightsAll Tryd.prog e ds).all (· ≤ reachBytes) = true → d ∈ ds → inReach d e
  | e, [], d, _, hd => by simp at hd
  | e, x :: r, d, h, hd => by
    simp only [DataW.weightsAll, List.all_append, Bool.and_eq_true] at h
    simp only [List.mem_cons] at hd
    rcases hd with rfl | hd
    · exact h.1
    · exact all_mem h.2 hd
theorem reach_str {H : Type} {s : ByteArray} {t : TypeId} (h : inReach (H := H) (.lit (.string s.data.toList)) t) : s.size ≤ 140737488355328 := by
  unfold inReach at h
  simp only [DataW.weights, List.all_cons, List.all_nil, Bool.and_true, decide_eq_true_eq] at h
  have e : s.data.toList.length = s.size := by rw [Array.length_toList]; rfl
  have := reachBytes_lt
  omega
theorem reach_struct {H : Type} {t : TypeId} {fs : Array Field} {parts : List (DataW H)} (hu : Tryd.prog.underlying t = some (.struct fs)) (h : inReach (.agg parts) t) : (DataW.weightsEach Tryd.prog (fs.toList.map (·.type)) parts).all (· ≤ reachBytes) = true := by
  unfold inReach at h
  simpa [DataW.weights, hu] using h
theorem reach_slice {H : Type} {t e : TypeId} {el sp : List (DataW H)} (hu : Tryd.prog.underlying t = some (.slice e)) (h : inReach (.slice el sp) t) : (DataW.weightsAll Tryd.prog e el).all (· ≤ reachBytes) = true := by
  unfold inReach at h
  simp only [DataW.weights, hu, List.all_cons, List.all_append, Bool.and_eq_true] at h
  exact h.2.1
variable {H : Type} {enc : TypeId × Value → H} {w : World} {spare : Nat → Bool} {held : Bool}
/-- As 'trod_row', of elements of which more is known. -/
theorem trod_row_s {α : Type} {d : Kd α} {Q : α → Prop} {t e : TypeId} {fuel : Nat} {cs : List Value} {x : DataW H × List MemPlace} (hT : Tryd.prog.underlying t = some (.slice e)) (hsz : Tryd.prog.cellsOf e = d.sz) (h0 : 0 < d.sz)
    (hel : ∀ n cs x, DataW.trod enc Tryd.prog w 0 spare held n e cs = some x → inReach x.1 e → ∃ y, d.K (· < w.heap.size) w y cs ∧ Q y) (h : DataW.trod enc Tryd.prog w 0 spare held fuel t cs = some x) (hw : inReach x.1 t) :
    ∃ A n c xs, cs = [.slice A n c] ∧ d.Row (· < w.heap.size) w A n c xs ∧ ∀ y ∈ xs, Q y := by
  rcases Go.Deep.open_slice hT h with ⟨rfl, _⟩ | ⟨a, len, cap, m, n, D, Pl, rfl, _, hl, hm, hmm, rfl, hi⟩
  · exact ⟨_, _, _, [], rfl, .nil _ _ _ _ _ (Nat.zero_le _), by simp⟩
  · have hlm : len ≤ m := by rw [hmm]; split <;> omega
    have hE := reach_slice hT hw
    rcases Nat.eq_zero_or_pos len with hz | hpos
    · subst hz
      exact ⟨_, _, _, [], rfl, .nil _ _ _ _ _ hm, by simp⟩
    have hc0 : ∀ i, i < len → ∃ y, ∃ cs', Tryd.prog.cellsOf e = cs'.length ∧ w.cells? 0 (a.add (i * Tryd.prog.cellsOf e)) (Tryd.prog.cellsOf e) = some cs' ∧ d.K (· < w.heap.size) w y cs' ∧ Q y := fun i hil => by
      obtain ⟨cs', hcs, htr⟩ := hi i (by omega)
      obtain ⟨y, hy, hq⟩ := hel _ _ _ htr (all_mem hE (List.mem_map.2 ⟨i, by simpa using hil, rfl⟩))
      obtain ⟨_, hcl, _⟩ := World.cells?_some hcs
      exact ⟨y, cs', hcl.symm, hcs, hy, hq⟩
    have hsp : a.spot = none ∧ a.block < w.heap.size := by
      obtain ⟨y, cs', hcl0, hcs, hy, _⟩ := hc0 0 hpos
      obtain ⟨_, hcl, hat⟩ := World.cells?_some hcs
      have hp : 0 < cs'.length := by rw [hcl, hsz]; exact h0
      have hg : w.cell? a = some (cs'[0]'(by omega)) := by
        have := (hat 0 (by omega)).trans (List.getElem?_eq_getElem (by omega))
        simpa [Addr.add] using this
      exact ⟨World.cell?_spot hg, World.block_lt_of_cell? w _ hg⟩
    obtain ⟨b, o, sp⟩ := a
    obtain ⟨rfl, hlt⟩ := hsp
    have hc : ∀ i, i < len → ∃ y, ∃ cs, (d.K (· < w.heap.size) w y cs ∧ w.rangeAt b (o + i * d.sz) cs) ∧ Q y := fun i hil => by
      obtain ⟨y, cs', _, hcs, hy, hq⟩ := hc0 i hil
      obtain ⟨_, hcl, hat⟩ := World.cells?_some hcs
      rw [hsz] at hcl hat
      refine ⟨y, cs', ⟨hy, fun j v hv => ?_⟩, hq⟩
      have := hat j (by rw [← hcl]; exact (List.getElem?_eq_some_iff.1 hv).1)
      rw [hv, Addr.add_none, Addr.add_none] at this
      exact this
    obtain ⟨xs, hxl, hx⟩ := list_of len hc
    exact ⟨_, _, _, xs, rfl, ⟨hxl, hl, hm, fun hn => ⟨b, o, rfl, hlt, hlt, fun i x hix => let ⟨cs, hq, _⟩ := hx i x hix; ⟨cs, hq⟩⟩⟩, fun y hy => by
      obtain ⟨i, hi', rfl⟩ := List.mem_iff_getElem.1 hy
      obtain ⟨cs, _, hq⟩ := hx i _ (List.getElem?_eq_getElem hi')
      exact hq⟩
theorem str_open_s (n : Nat) (cs : List Value) (x : DataW H × List MemPlace) (h : DataW.trod enc Tryd.prog w 0 spare held n 9 cs = some x) (hw : inReach x.1 9) :
    ∃ y : ByteArray, kStr.K (· < w.heap.size) w y cs ∧ y.size ≤ 140737488355328 := by
  obtain ⟨s, rfl, e, hm⟩ := DataW.trod_string Tryd.underlying9 h
  rw [e] at hw
  exact ⟨s, ⟨rfl, hm⟩, reach_str hw⟩
end Go.Proofs.YtdkeflhgengblaaDoor
namespace Go.Proofs.YtdkeflhgengblaaDoor
open Go.ChangeShapes Go.WideShapes Go.ChangeAt Go.RowKit

theorem open_cav_s {H : Type} {enc : TypeId × Value → H} {w : World} {spare : Nat → Bool} {held : Bool} (n : Nat) (cs : List Value) (x : DataW H × List MemPlace) (h : DataW.trod enc Tryd.prog w 0 spare held n 83 cs = some x) (hw : inReach x.1 83) :
    ∃ y, kCav.K (· < w.heap.size) w y cs ∧ y.fits := by
  obtain ⟨y, hy⟩ := open_cav n cs x h
  refine ⟨y, hy, ?_⟩
  obtain ⟨xs, m, rfl, rfl, hl, hx, hf⟩ := DataW.trod_struct Tryd.underlying83 h
  have hxs : xs.length = 5 := hx
  have hE := reach_struct Tryd.underlying83 hw
  have hcs := hy.1
  have c9 : Tryd.prog.cellsOf 9 = 1 := by kernel_rfl
  have h1 := hf 1 _ rfl
  have h3 := hf 3 _ rfl
  have h4 := hf 4 _ rfl
  rw [List.getElem?_eq_getElem (by omega)] at h1 h3 h4
  obtain ⟨s1, e1, x1, -⟩ := DataW.trod_string Tryd.underlying9 h1
  obtain ⟨s3, e3, x3, -⟩ := DataW.trod_string Tryd.underlying9 h3
  obtain ⟨s4, e4, x4, -⟩ := DataW.trod_string Tryd.underlying9 h4
  simp [c9, hcs, Cav.cells] at e1 e3 e4
  have g1 := each_part (j := 1) (t := 9) (d := xs[1].1) hE rfl (by rw [List.getElem?_map, List.getElem?_eq_getElem (by omega)]; rfl)
  have g3 := each_part (j := 3) (t := 9) (d := xs[3].1) hE rfl (by rw [List.getElem?_map, List.getElem?_eq_getElem (by omega)]; rfl)
  have g4 := each_part (j := 4) (t := 9) (d := xs[4].1) hE rfl (by rw [List.getElem?_map, List.getElem?_eq_getElem (by omega)]; rfl)
  rw [x1] at g1
  rw [x3] at g3
  rw [x4] at g4
  exact ⟨by rw [e1]; exact reach_str g1, by rw [e3]; exact reach_str g3, by rw [e4]; exact reach_str g4⟩
variable {H : Type} {enc : TypeId × Value → H} {w : World} {spare : Nat → Bool} {held : Bool}
theorem open_tok_s (n : Nat) (cs : List Value) (x : DataW H × List MemPlace) (h : DataW.trod enc Tryd.prog w 0 spare held n 44 cs = some x) (hw : inReach x.1 44) :
    ∃ (t : Tok) (A : Option Addr) (l c : Nat), cs = (tokC (.int .u64 (t.key : Int)) (.string t.id) (.slice A l c) (.bool t.bnd) t.tag).toList ∧ kCav.Row (· < w.heap.size) w A l c t.cavs ∧ t.key < 18446744073709551616 ∧ t.id.size ≤ 140737488355328 ∧ ∀ c ∈ t.cavs, c.fits := by
  obtain ⟨t, A, l, c, e, hr, hk, -⟩ := open_tok n cs x h
  obtain ⟨xs, m, rfl, rfl, hl, hx, hf⟩ := DataW.trod_struct Tryd.underlying44 h
  have hxs : xs.length = 5 := hx
  have hE := reach_struct Tryd.underlying44 hw
  have c9 : Tryd.prog.cellsOf 9 = 1 := by kernel_rfl
  have c57 : Tryd.prog.cellsOf 42 = 1 := by kernel_rfl
  have h1 := hf 1 _ rfl
  have h2 := hf 2 _ rfl
  rw [List.getElem?_eq_getElem (by omega)] at h1 h2
  obtain ⟨s1, e1, x1, -⟩ := DataW.trod_string Tryd.underlying9 h1
  have g1 := each_part (j := 1) (t := 9) (d := xs[1].1) hE rfl (by rw [List.getElem?_map, List.getElem?_eq_getElem (by omega)]; rfl)
  have g2 := each_part (j := 2) (t := 42) (d := xs[2].1) hE rfl (by rw [List.getElem?_map, List.getElem?_eq_getElem (by omega)]; rfl)
  rw [x1] at g1
  obtain ⟨A2, l2, c2, cv, e2, hr2, hq2⟩ := trod_row_s (d := kCav) (Q := Cav.fits) Tryd.underlying42 (by kernel_rfl) (by decide) open_cav_s h2 g2
  simp [c9, e, tokC] at e1
  simp [c57, e, tokC] at e2
  obtain ⟨rfl, rfl, rfl⟩ := e2
  refine ⟨⟨t.key, t.id, cv, t.bnd, t.tag⟩, A, l, c, e, hr2, hk, ?_, hq2⟩
  show t.id.size ≤ _
  rw [e1]
  exact reach_str g1
end Go.Proofs.YtdkeflhgengblaaDoor
namespace Go.Proofs.YtdkeflhgengblaaDoor
open Go.ChangeShapes Go.WideShapes Go.ChangeAt Go.RowKit
theorem tok_open_s {H : Type} {enc : TypeId × Value → H} {w : World} {spare : Nat → Bool} {held : Bool} (n : Nat) (cs : List Value) (x : DataW H × List MemPlace) (h : DataW.trod enc Tryd.prog w 0 spare held n 44 cs = some x) (hw : inReach x.1 44) :
    ∃ y, kTok.K (· < w.heap.size) w y cs ∧ y.fits := by
  obtain ⟨t, A, l, c, e, hr, hk, hi, hf⟩ := open_tok_s _ _ _ h hw
  exact ⟨t, ⟨A, l, c, e, hr, hk⟩, hi, hf⟩
theorem open_bun_s {H : Type} {enc : TypeId × Value → H} {w : World} {spare : Nat → Bool} {held : Bool} (n : Nat) (cs : List Value) (x : DataW H × List MemPlace) (h : DataW.trod enc Tryd.prog w 0 spare held n 61 cs = some x) (hw : inReach x.1 61) :
    ∃ (b : Bun) (A : Option Addr) (l c : Nat) (B : Option Addr) (m d : Nat), cs = (bunA b A l c B m d).toList ∧ kCav.Row (· < w.heap.size) w A l c b.root.cavs ∧ kTok.Row (· < w.heap.size) w B m d b.dis ∧ b.root.key < 18446744073709551616 ∧ b.root.fits ∧ ∀ y ∈ b.dis, y.fits := by
  obtain ⟨xs, m, rfl, rfl, hl, hx, hf⟩ := DataW.trod_struct Tryd.underlying61 h
  have c37 : Tryd.prog.cellsOf 61 = 37 := by kernel_rfl
  have c36 : Tryd.prog.cellsOf 44 = 36 := by kernel_rfl
  have c1 : Tryd.prog.cellsOf 59 = 1 := by kernel_rfl
  have hE := reach_struct Tryd.underlying61 hw
  rw [c37] at hl
  have hxs : xs.length = 2 := hx
  have h0 : DataW.trod enc Tryd.prog w 0 spare held m 44 (List.take (Tryd.prog.cellsOf 44) (List.drop 0 cs)) = xs[0]? := hf 0 _ rfl
  have h1 : DataW.trod enc Tryd.prog w 0 spare held m 59 (List.take (Tryd.prog.cellsOf 59) (List.drop 36 cs)) = xs[1]? := hf 1 _ rfl
  rw [List.getElem?_eq_getElem (by omega)] at h0 h1
  rw [c36, List.drop_zero] at h0
  rw [c1] at h1
  have g0 := each_part (j := 0) (t := 44) (d := xs[0].1) hE rfl (by rw [List.getElem?_map, List.getElem?_eq_getElem (by omega)]; rfl)
  have g1 := each_part (j := 1) (t := 59) (d := xs[1].1) hE rfl (by rw [List.getElem?_map, List.getElem?_eq_getElem (by omega)]; rfl)
  obtain ⟨t, A, l, c, e0, hr, hk, hi, hff⟩ := open_tok_s _ _ _ h0 g0
  obtain ⟨B, m', d, ds, e1, hs, hq⟩ := trod_row_s (d := kTok) (Q := Tok.fits) Tryd.underlying59 c36 (by decide) tok_open_s h1 g1
  refine ⟨⟨t, ds⟩, A, l, c, B, m', d, ?_, hr, hs, hk, ⟨hi, hff⟩, hq⟩
  have hd : (cs.drop 36).length = 1 := by rw [List.length_drop, hl]
  have e2 : cs.drop 36 = [.slice B m' d] := (List.take_of_length_le (Nat.le_of_eq hd)).symm.trans e1
  rw [bunC_list]
  refine (List.take_append_drop 36 cs).symm.trans ?_
  rw [e2]
  exact congrArg (· ++ [Value.slice B m' d]) e0
end Go.Proofs.YtdkeflhgengblaaDoor
namespace Go.Proofs.YtdkeflhgengblaaDoor
open Go.ChangeShapes Go.WideShapes Go.ChangeAt Go.RowKit

set_option maxRecDepth 100000 in
set_option maxHeartbeats 2000000 in
theorem bindAll_lifted (os : Os) (started : os.Started) (H : Type) (enc : TypeId × Value → H) :
    ReturnsInHanded {} Tryd.checked os 7 .any (fun w args => (Rows.bindAllSpec.pre enc Tryd.prog Tryd.f7 [] false w args ∧ laidMetH Tryd.prog laidD w) ∧ sizedMet enc Tryd.prog Tryd.f7 (OpenSpec.ofChange Rows.bindAllSpec) false w args)
      (Rows.bindAllSpec.post enc Tryd.prog Tryd.f7 false true false false) := by
  refine returnsInHanded_of_change_and (C := Tryd.checked) (X := fun w _ => laidMetH Tryd.prog laidD w) (fun _ _ _ hh h => h.of_heap hh) ownKnobD started (by kernel_rfl) Tryd.func7
    (ChangeSpec.witness_shaped (enc := enc) (C := Tryd.checked) (os := os) (X := fun w _ => laidMetH Tryd.prog laidD w) false (World.doorLaid Tryd.prog 400 os) #[.agg #[.int .u64 0, .string ByteArray.empty, .slice none 0 0, .bool false, .int .u8 0, .int .u8 0, .int .u8 0, .int .u8 0, .int .u8 0, .int .u8 0, .int .u8 0, .int .u8 0, .int .u8 0, .int .u8 0, .int .u8 0, .int .u8 0, .int .u8 0, .int .u8 0, .int .u8 0, .int .u8 0, .int .u8 0, .int .u8 0, .int .u8 0, .int .u8 0, .int .u8 0, .int .u8 0, .int .u8 0, .int .u8 0, .int .u8 0, .int .u8 0, .int .u8 0, .int .u8 0, .int .u8 0, .int .u8 0, .int .u8 0, .int .u8 0, .slice none 0 0]] 8 rfl (World.shaped_of_RefB (by kernel_rfl) (by kernel_rfl)) (by kernel_rfl) (by kernel_rfl) (by kernel_rfl) (door_met os _)) ?_
  intro W base args ds gs before hval0 hW _ hwt hL _
  have hval : ∀ (j : Nat) t v, Tryd.f7.params[j]? = some t → args[j]? = some v → Value.okWide Tryd.prog W .any base t v := hval0
  have hW' := hW
  obtain ⟨p, q, hA0, hV, rfl, hfz, hnd⟩ := hW
  have hA : DataW.TrodAll enc Tryd.prog W 0 (fun _ => true) true Tryd.f7.params.toList args.toList ds p := hA0
  have hw2 : (DataW.weightsEach Tryd.prog (Tryd.f7.params.toList ++ Rows.bindAllSpec.plain.varTypes Tryd.prog) (ds ++ gs)).all (· ≤ reachBytes) = true := hwt
  rw [Tryd.params7] at hA hval hw2
  obtain ⟨v0, d0, rfl, rfl, ⟨n0, h0⟩⟩ := trodAll_one hA
  obtain ⟨rfl, rfl⟩ := trodVars_none hV
  have g0 := each_part (j := 0) (t := 61) (d := d0) hw2 rfl rfl
  obtain ⟨C0, rfl, -⟩ := okWide_struct Tryd.underlying61 (hval 0 61 v0 rfl rfl)
  obtain ⟨b, A0, l0, c0, B0, m0, d0', e0, hr0, hs0, hk0, hf0, hg0⟩ := open_bun_s _ _ _ h0 g0
  obtain rfl := Array.toList_inj.1 (show C0.toList = _ from e0)
  have hP := primes_of hL
  clear hA0 hval0 h0
  refine (c_bindall b A0 B0 l0 c0 m0 d0' W hr0 hs0 hf0 hg0 hP).mono fun e W' ⟨he, hg⟩ => ?_
  subst he
  exact ⟨_, rfl, post_true laidOutD (by kernel_rfl) (by kernel_rfl) Tryd.underlying4 rfl hW' rfl hg⟩

theorem bindAll_row : Rows.BindAllSaid :=
  OpenClaim.holds_of_wide 7 Tryd.f7 rfl rfl rfl rfl rfl rfl rfl ⟨rfl, rfl, rfl, rfl, rfl⟩ rfl rfl rfl rfl rfl (by kernel_rfl) Tryd.func7 (by kernel_rfl)
    (of_decide_eq_true (by kernel_rfl)) (by unfold Func.isWrapper; first | (rw [if_pos (by decide +kernel)]; kernel_rfl) | (rw [if_neg (by decide +kernel)]; exact ⟨rfl, rfl⟩))
    (fun os started H enc _ => bindAll_lifted os started H enc)
theorem bindAll_proved : Rows.BindAllCardSaid :=
  Claim7.holds_tied_plain_at .later [] [.data] true (true, "d317ab1675fa3a16e363678a6185963307d92010002b8084dbffbaf3b4b18b17") false
    bindAll_row (fun _ h => by cases h) (by kernel_rfl) (fun _ h => by cases h) bindAll_row_tie rfl ⟨rfl, rfl⟩ (by kernel_rfl) rfl
    (fun f fn hf hfn => by
      obtain rfl : f = 7 := Option.some.inj ((show Tryd.prog.funcNamed "chitty/chittylaw21.BindAll" = some 7 by kernel_rfl).symm.trans hf) |>.symm
      obtain rfl : fn = Tryd.f7 := (Option.some.inj (Tryd.func7.symm.trans hfn)).symm
      exact ⟨by kernel_rfl, fun j t ht => by
        rw [Tryd.params7] at ht
        have hm : t ∈ [61] := by simpa using Array.mem_of_getElem? ht
        have hall : ([61].all fun u => !Tryd.prog.wantsStandIn u) = true := by kernel_rfl
        exact (show Tryd.prog.wantsStandIn t = false by simpa using List.all_eq_true.1 hall t hm)⟩)
    (by kernel_rfl)
end Go.Proofs.YtdkeflhgengblaaDoor
