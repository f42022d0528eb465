/- The walks of layer 24: an out's bundle, an out's token, and the document's answers. No condition. -/
import Derived.Test.YtlfhbnajopekpaaRb3
import Derived.Test.YtlfhbnajopekpaaStoL
namespace Go.Proofs.Ytlfhbnajopekpaa
open Go.RowKit
attribute [local go_sem ↓] ld16 ld17 ld32 ld36 ld37
attribute [local go_sem] run_ldAgg run_storeAgg agg_alloc_at agg_alloc_past agg_drew agg_setCell row_alloc_at row_alloc_past row_drew setRow_alloc_at setRow_alloc_past setRow_drew agg_setRow_at agg_setRow_far cell_setRow_at cell_setRow_far row_setRow_far size_setRow tgC_size tgC_one tgC_part tgC_splice tokC_size tokC_0 tokC_1 tokC_2 tokC_3 tokC_g0 tokC_g1 tokC_g2 tokC_g3 tokC_part tokC_tag tokC_set0 tokC_set1 tokC_set2 tokC_set3 tokC_splice tokC_splice0 tgC_splice_any zero_tg zero_tok tokC_all tokC_ne tgC_ne
attribute [local go_sem] bunC_size bunC_0 bunC_1 bunC_2 bunC_3 bunC_36 bunC_g3 bunC_g36 bunC_part bunC_root bunC_set36 bunC_splice bunC_splice0 zero_bun bunC_all bunC_ne

def BRd (w : World) (o : Option Bun) (k : Nat) (e : Ending) (w' : World) : Prop :=
  ∃ A n c B m d, e = .returned (.tuple #[bunV (o.getD Bun.zero) A n c B m d, .int .i64 (k : Int)]) ∧ kCav.Row (fun k => w.heap.size ≤ k) w' A n c (o.getD Bun.zero).root.cavs ∧
    kTok.Row (fun k => w.heap.size ≤ k) w' B m d (o.getD Bun.zero).dis ∧ Below w.heap.size w w'
def TRd (w : World) (o : Option Tok) (k : Nat) (e : Ending) (w' : World) : Prop :=
  ∃ A n c, e = .returned (.tuple #[tokV (o.getD Tok.zero) A n c, .int .i64 (k : Int)]) ∧ kCav.Row (fun k => w.heap.size ≤ k) w' A n c (o.getD Tok.zero).cavs ∧ Below w.heap.size w w'
theorem brd_no {w W : World} (hB : Below w.heap.size w W) : BRd w none 7 (.returned (.tuple #[.agg bunZ, .int .i64 7])) W :=
  ⟨none, 0, 0, none, 0, 0, rfl, .nil _ _ _ _ _ (Nat.zero_le _), .nil _ _ _ _ _ (Nat.zero_le _), hB⟩
theorem trd_no {w W : World} (k : Nat) (i : Int) (hi : i = (k : Int)) (hB : Below w.heap.size w W) : TRd w none k (.returned (.tuple #[.agg tokZ, .int .i64 i])) W := by
  subst hi
  exact ⟨none, 0, 0, rfl, .nil _ _ _ _ _ (Nat.zero_le _), hB⟩
/-- What lies at a number. -/
def ostr (l : List Out) (n : Int) : Option Out := if 0 ≤ n then l[n.toNat]? else none
theorem ostr_none {l : List Out} {n : Int} (h : ostr l n = none) : n < 0 ∨ (l.length : Int) ≤ n := by
  unfold ostr at h
  split at h
  · have := List.getElem?_eq_none_iff.1 h; omega
  · omega
theorem ostr_some {l : List Out} {n : Int} {o : Out} (h : ostr l n = some o) : ∃ k : Nat, n = k ∧ l[k]? = some o := by
  unfold ostr at h
  split at h
  · exact ⟨n.toNat, by omega, h⟩
  · cases h
def bVal (l : List Out) (n : Int) : Option Bun := (ostr l n).bind fun o => if o.whole then bvalD (byt o.bytes) else none
def bCode (l : List Out) (n : Int) : Nat := match ostr l n with | some o => if o.whole then bcodeD (byt o.bytes) else 7 | none => 7
def tVal (l : List Out) (n : Int) : Option Tok := (ostr l n).bind fun o => if o.whole then none else pdec (byt o.bytes)
def tCode (l : List Out) (n : Int) : Nat := match ostr l n with | some o => if o.whole then 7 else (if (pdec (byt o.bytes)).isSome then 0 else 2) | none => 7
theorem row_past {α : Type} {d : Kd α} {B : Nat} {w : World} {A : Option Addr} {n c : Nat} {xs : List α} (h : d.Row (fun k => B ≤ k) w A n c xs) {q : Nat} (hq : q < B) (C : Array Value) : d.Row (fun k => B ≤ k) (w.setRow q C) A n c xs :=
  h.keep fun k hk _ => heap_setRow_far _ _ _ (by omega)
theorem tcode_eq (o : Option Tok) : ((if o.isSome then 0 else 2 : Nat) : Int) = if o.isSome then 0 else 2 := by split <;> rfl
set_option maxRecDepth 100000 in
set_option maxHeartbeats 600000 in
theorem c_sreadB (base : Nat) (w : World) (g : Nat) (v : Value) (l : List Out) (n : Int) (h : StoreAt base w g v l) (hn : l.length ≤ 1099511627776) (hsz : ∀ o ∈ l, o.bytes.size ≤ 70000) :
    Calls Try.prog 69 #[.pointer (some ⟨g, 0, none⟩), .int .i64 n, .bool true, .func (.func 50) #[] #[]] w (BRd w (bVal l n) (bCode l n)) := by
  have H := hide h
  have HN := hide hn
  have HSZ := hide hsz
  clear h hn hsz
  cases ho : ostr l n with
  | none =>
    have HV : Hid (bVal l n = none) := hide (by rw [bVal, ho]; rfl)
    have HC : Hid (bCode l n = 7) := hide (by rw [bCode, ho])
    have HX := hide (ostr_none ho)
    clear ho
    go_enter Try.func69, Try.ntmps69
    go_wp2_with fail
    refine (c_sget_out base _ g v l n (H.out.below (below1 _ _)) HN.out HX.out).mono ?_
    rintro e w1 ⟨rfl, b1⟩
    have HB1 := hide (bnext (below1 _ _) b1)
    have hz1 : row? w1 w.heap.size = some bunZ := row_of ((b1.block w.heap.size (by simp)).trans (heap_alloc_new _ _))
    have hl1 : w.heap.size < w1.heap.size := by have := b1.size; simp only [World.size_alloc] at this; omega
    have hl1' : w.heap.size < w1.heap.size + 1 := by omega
    clear b1
    go_wp2_with fail
    exact bodyPost_ret (v := .tuple #[.agg bunZ, .int .i64 7]) (by simp [results, Try.results69, go_sem, hz1, hl1, hl1']) rfl (by
      rw [HV.out, HC.out]
      exact brd_no (by repeat (first | exact HB1.out | refine Below.alloc ?_ (by first | omega | (simp; omega)) _ | refine bsetRow ?_ (by omega) _)))
  | some o =>
    obtain ⟨k, hk, hlk⟩ := ostr_some ho
    have HLK := hide hlk
    have HSB := hide (HSZ.out o (List.mem_of_getElem? hlk))
    have HK := hide hk
    clear hlk hk
    cases hw : o.whole with
    | false =>
      have HV : Hid (bVal l n = none) := hide (by rw [bVal, ho, Option.bind_some, hw]; rfl)
      have HC : Hid (bCode l n = 7) := hide (by rw [bCode, ho]; simp [hw])
      have HW := hide hw
      clear ho hw
      go_enter Try.func69, Try.ntmps69
      go_wp2_with fail
      refine (c_sget_in base _ g v l n k o (H.out.below (below1 _ _)) HK.out HLK.out).mono ?_
      rintro e w1 ⟨rfl, b1⟩
      rw [HW.out]
      have HB1 := hide (bnext (below1 _ _) b1)
      have hz1 : row? w1 w.heap.size = some bunZ := row_of ((b1.block w.heap.size (by simp)).trans (heap_alloc_new _ _))
      have hl1 : w.heap.size < w1.heap.size := by have := b1.size; simp only [World.size_alloc] at this; omega
      have hl1' : w.heap.size < w1.heap.size + 1 := by omega
      clear b1
      go_wp2_with fail
      exact bodyPost_ret (v := .tuple #[.agg bunZ, .int .i64 7]) (by simp [results, Try.results69, go_sem, hz1, hl1, hl1']) rfl (by
        rw [HV.out, HC.out]
        exact brd_no (by repeat (first | exact HB1.out | refine Below.alloc ?_ (by first | omega | (simp; omega)) _ | refine bsetRow ?_ (by omega) _)))
    | true =>
      have HV : Hid (bVal l n = bvalD (byt o.bytes)) := hide (by rw [bVal, ho, Option.bind_some, hw]; rfl)
      have HC : Hid (bCode l n = bcodeD (byt o.bytes)) := hide (by rw [bCode, ho]; simp [hw])
      have HW := hide hw
      clear ho hw
      go_enter Try.func69, Try.ntmps69
      go_wp2_with fail
      refine (c_sget_in base _ g v l n k o (H.out.below (below1 _ _)) HK.out HLK.out).mono ?_
      rintro e w1 ⟨rfl, b1⟩
      rw [HW.out]
      have HB1 := hide (bnext (below1 _ _) b1)
      have hz1 : row? w1 w.heap.size = some bunZ := row_of ((b1.block w.heap.size (by simp)).trans (heap_alloc_new _ _))
      have hl1 : w.heap.size < w1.heap.size := by have := b1.size; simp only [World.size_alloc] at this; omega
      clear b1
      go_wp2_with (refine at_tobytes (P := Try.prog) 9 60 o.bytes rfl Try.underlying9 Try.underlying60 Try.underlying5 ?_ (w1.heap.size + 1) (by simp) ?_)
      · have := HSB.out; omega
      intro c4 w4 hr4 b4 hl4
      have HR4 := hide hr4
      have HB4 := hide ((below1 w1 (.cells #[.string o.bytes, .bool true, .bool o.pub] 30)).trans (b4.mono (Nat.le_succ _)))
      clear hr4 b4
      go_wp2_with fail
      refine (c_bdecode _ _ c4 _ _ w4 HR4.out).mono ?_
      rintro e w5 ⟨A5, n5, c5, B5, m5, d5, rfl, hr5, hs5, b5⟩
      rw [← HV.out] at hr5 hs5 ⊢
      rw [← HC.out]
      obtain ⟨y, hy⟩ : ∃ y, y = (bVal l n).getD Bun.zero := ⟨_, rfl⟩
      rw [← hy] at hr5 hs5 ⊢
      have HY := hide hy
      have HR5 := hide hr5
      have HS5 := hide hs5
      have hz5 : row? w5 w.heap.size = some bunZ := by
        unfold row? at hz1 ⊢
        rw [b5.block _ (by omega), HB4.out.block _ hl1]
        exact hz1
      have hl5 := b5.size
      have HB5 := hide (HB1.out.trans ((HB4.out.mono HB1.out.size).trans (b5.mono (by omega))))
      have hsz4 : w.heap.size < w4.heap.size := by omega
      clear hr5 b5 hy hz1 hs5
      go_wp2_with fail
      exact bodyPost_ret (v := .tuple #[.agg (bunA y A5 n5 c5 B5 m5 d5), .int .i64 (bCode l n : Int)]) (by simp [results, Try.results69, go_sem, hz5]) rfl (by
        unfold BRd
        rw [← HY.out]
        exact ⟨A5, n5, c5, B5, m5, d5, rfl, (row_past HR5.out (by omega) _).more (fun k hk => by omega), (row_past HS5.out (by omega) _).more (fun k hk => by omega), bsetRow HB5.out (Nat.le_refl _) _⟩)
set_option maxRecDepth 100000 in
set_option maxHeartbeats 600000 in
theorem c_sreadT (base : Nat) (w : World) (g : Nat) (v : Value) (l : List Out) (n : Int) (h : StoreAt base w g v l) (hn : l.length ≤ 1099511627776) (hsz : ∀ o ∈ l, o.bytes.size ≤ 70000) :
    Calls Try.prog 70 #[.pointer (some ⟨g, 0, none⟩), .int .i64 n, .bool false, .func (.func 31) #[] #[]] w (TRd w (tVal l n) (tCode l n)) := by
  have H := hide h
  have HN := hide hn
  have HSZ := hide hsz
  clear h hn hsz
  cases ho : ostr l n with
  | none =>
    have HV : Hid (tVal l n = none) := hide (by rw [tVal, ho]; rfl)
    have HC : Hid (tCode l n = 7) := hide (by rw [tCode, ho])
    have HX := hide (ostr_none ho)
    clear ho
    go_enter Try.func70, Try.ntmps70
    go_wp2_with fail
    refine (c_sget_out base _ g v l n (H.out.below (below1 _ _)) HN.out HX.out).mono ?_
    rintro e w1 ⟨rfl, b1⟩
    have HB1 := hide (bnext (below1 _ _) b1)
    have hz1 : row? w1 w.heap.size = some tokZ := row_of ((b1.block w.heap.size (by simp)).trans (heap_alloc_new _ _))
    have hl1 : w.heap.size < w1.heap.size := by have := b1.size; simp only [World.size_alloc] at this; omega
    have hl1' : w.heap.size < w1.heap.size + 1 := by omega
    clear b1
    go_wp2_with fail
    exact bodyPost_ret (v := .tuple #[.agg tokZ, .int .i64 7]) (by simp [results, Try.results70, go_sem, hz1, hl1, hl1']) rfl (by
      rw [HV.out, HC.out]
      exact trd_no 7 7 rfl (by repeat (first | exact HB1.out | refine Below.alloc ?_ (by first | omega | (simp; omega)) _ | refine bsetRow ?_ (by omega) _)))
  | some o =>
    obtain ⟨k, hk, hlk⟩ := ostr_some ho
    have HLK := hide hlk
    have HSB := hide (HSZ.out o (List.mem_of_getElem? hlk))
    have HK := hide hk
    clear hlk hk
    cases hw : o.whole with
    | true =>
      have HV : Hid (tVal l n = none) := hide (by rw [tVal, ho, Option.bind_some, hw]; rfl)
      have HC : Hid (tCode l n = 7) := hide (by rw [tCode, ho]; simp [hw])
      have HW := hide hw
      clear ho hw
      go_enter Try.func70, Try.ntmps70
      go_wp2_with fail
      refine (c_sget_in base _ g v l n k o (H.out.below (below1 _ _)) HK.out HLK.out).mono ?_
      rintro e w1 ⟨rfl, b1⟩
      rw [HW.out]
      have HB1 := hide (bnext (below1 _ _) b1)
      have hz1 : row? w1 w.heap.size = some tokZ := row_of ((b1.block w.heap.size (by simp)).trans (heap_alloc_new _ _))
      have hl1 : w.heap.size < w1.heap.size := by have := b1.size; simp only [World.size_alloc] at this; omega
      have hl1' : w.heap.size < w1.heap.size + 1 := by omega
      clear b1
      go_wp2_with fail
      exact bodyPost_ret (v := .tuple #[.agg tokZ, .int .i64 7]) (by simp [results, Try.results70, go_sem, hz1, hl1, hl1']) rfl (by
        rw [HV.out, HC.out]
        exact trd_no 7 7 rfl (by repeat (first | exact HB1.out | refine Below.alloc ?_ (by first | omega | (simp; omega)) _ | refine bsetRow ?_ (by omega) _)))
    | false =>
      have HV : Hid (tVal l n = pdec (byt o.bytes)) := hide (by rw [tVal, ho, Option.bind_some, hw]; rfl)
      have HC : Hid (tCode l n = if (pdec (byt o.bytes)).isSome then 0 else 2) := hide (by rw [tCode, ho]; simp [hw])
      have HW := hide hw
      clear ho hw
      go_enter Try.func70, Try.ntmps70
      go_wp2_with fail
      refine (c_sget_in base _ g v l n k o (H.out.below (below1 _ _)) HK.out HLK.out).mono ?_
      rintro e w1 ⟨rfl, b1⟩
      rw [HW.out]
      have HB1 := hide (bnext (below1 _ _) b1)
      have hz1 : row? w1 w.heap.size = some tokZ := row_of ((b1.block w.heap.size (by simp)).trans (heap_alloc_new _ _))
      have hl1 : w.heap.size < w1.heap.size := by have := b1.size; simp only [World.size_alloc] at this; omega
      clear b1
      go_wp2_with (refine at_tobytes (P := Try.prog) 9 60 o.bytes rfl Try.underlying9 Try.underlying60 Try.underlying5 ?_ (w1.heap.size + 1) (by simp) ?_)
      · have := HSB.out; omega
      intro c4 w4 hr4 b4 hl4
      have HR4 := hide hr4
      have HB4 := hide ((below1 w1 (.cells #[.string o.bytes, .bool false, .bool o.pub] 30)).trans (b4.mono (Nat.le_succ _)))
      clear hr4 b4
      go_wp2_with fail
      refine (c_decode _ _ c4 _ _ w4 HR4.out (by have := HSB.out; omega)).mono ?_
      rintro e w5 ⟨A5, n5, c5, rfl, ho5, b5⟩
      have hr5 := (own_row_of ho5).more (ok' := fun k => w4.heap.size ≤ k) fun k hk => by
        rcases hk with hk | hk
        · exact hk.elim
        · exact (ho5.base_le k hk.symm).1
      rw [← tcode_eq, ← HC.out]
      rw [← HV.out] at hr5 ⊢
      obtain ⟨y, hy⟩ : ∃ y, y = (tVal l n).getD Tok.zero := ⟨_, rfl⟩
      rw [← hy] at hr5 ⊢
      have HY := hide hy
      have HR5 := hide hr5
      have hz5 : row? w5 w.heap.size = some tokZ := by
        unfold row? at hz1 ⊢
        rw [b5.block _ (by omega), HB4.out.block _ hl1]
        exact hz1
      have hl5 := b5.size
      have HB5 := hide (HB1.out.trans ((HB4.out.mono HB1.out.size).trans (b5.mono (by omega))))
      have hsz4 : w.heap.size < w4.heap.size := by omega
      clear hr5 b5 hy hz1 ho5
      go_wp2_with fail
      exact bodyPost_ret (v := .tuple #[.agg (tokA y A5 n5 c5), .int .i64 (tCode l n : Int)]) (by simp [results, Try.results70, go_sem, hz5]) rfl (by
        unfold TRd
        rw [← HY.out]
        exact ⟨A5, n5, c5, rfl, (row_past HR5.out (by omega) _).more (fun k hk => by omega), bsetRow HB5.out (Nat.le_refl _) _⟩)
set_option maxRecDepth 100000 in
set_option maxHeartbeats 600000 in
theorem c_sB (base : Nat) (w : World) (g : Nat) (v : Value) (l : List Out) (n : Int) (h : StoreAt base w g v l) (hn : l.length ≤ 1099511627776) (hsz : ∀ o ∈ l, o.bytes.size ≤ 70000) :
    Calls Try.prog 33 #[.pointer (some ⟨g, 0, none⟩), .int .i64 n] w (BRd w (bVal l n) (bCode l n)) := by
  have H := hide h
  have HN := hide hn
  have HSZ := hide hsz
  clear h hn hsz
  obtain ⟨y, hy⟩ : ∃ y, y = (bVal l n).getD Bun.zero := ⟨_, rfl⟩
  have HY := hide hy
  go_enter Try.func33, Try.ntmps33
  go_wp2_with fail
  refine (c_sreadB base _ g v l n (H.out.below (below1 _ _)) HN.out HSZ.out).mono ?_
  rintro e w5 ⟨A5, n5, c5, B5, m5, d5, rfl, hr5, hs5, b5⟩
  rw [← hy] at hr5 hs5 ⊢
  have HR5 := hide hr5
  have HS5 := hide hs5
  have hz5 : row? w5 w.heap.size = some bunZ := row_of ((b5.block w.heap.size (by simp)).trans (heap_alloc_new _ _))
  have HB5 := hide (bnext (below1 _ _) b5)
  clear hr5 b5 hy hs5
  go_wp2_with fail
  exact bodyPost_ret (v := .tuple #[.agg (bunA y A5 n5 c5 B5 m5 d5), .int .i64 (bCode l n : Int)]) (by simp [results, Try.results33, go_sem, hz5]) rfl (by
    unfold BRd
    rw [← HY.out]
    exact ⟨A5, n5, c5, B5, m5, d5, rfl, (row_past HR5.out (by simp) _).more (fun k hk => by simp only [World.size_alloc] at hk; omega), (row_past HS5.out (by simp) _).more (fun k hk => by simp only [World.size_alloc] at hk; omega), bsetRow HB5.out (Nat.le_refl _) _⟩)
set_option maxRecDepth 100000 in
set_option maxHeartbeats 600000 in
theorem c_sT (base : Nat) (w : World) (g : Nat) (v : Value) (l : List Out) (n : Int) (h : StoreAt base w g v l) (hn : l.length ≤ 1099511627776) (hsz : ∀ o ∈ l, o.bytes.size ≤ 70000) :
    Calls Try.prog 35 #[.pointer (some ⟨g, 0, none⟩), .int .i64 n] w (TRd w (tVal l n) (tCode l n)) := by
  have H := hide h
  have HN := hide hn
  have HSZ := hide hsz
  clear h hn hsz
  obtain ⟨y, hy⟩ : ∃ y, y = (tVal l n).getD Tok.zero := ⟨_, rfl⟩
  have HY := hide hy
  go_enter Try.func35, Try.ntmps35
  go_wp2_with fail
  refine (c_sreadT base _ g v l n (H.out.below (below1 _ _)) HN.out HSZ.out).mono ?_
  rintro e w5 ⟨A5, n5, c5, rfl, hr5, b5⟩
  rw [← hy] at hr5 ⊢
  have HR5 := hide hr5
  skip
  have hz5 : row? w5 w.heap.size = some tokZ := row_of ((b5.block w.heap.size (by simp)).trans (heap_alloc_new _ _))
  have HB5 := hide (bnext (below1 _ _) b5)
  clear hr5 b5 hy 
  go_wp2_with fail
  exact bodyPost_ret (v := .tuple #[.agg (tokA y A5 n5 c5), .int .i64 (tCode l n : Int)]) (by simp [results, Try.results35, go_sem, hz5]) rfl (by
    unfold TRd
    rw [← HY.out]
    exact ⟨A5, n5, c5, rfl, (row_past HR5.out (by simp) _).more (fun k hk => by simp only [World.size_alloc] at hk; omega), bsetRow HB5.out (Nat.le_refl _) _⟩)
set_option maxRecDepth 100000 in
set_option maxHeartbeats 600000 in
theorem c_refB (ok : Nat → Prop) (w : World) (A : Option Addr) (nn cc : Nat) (l : List Out) (n : Int) (hr : kOut.Row ok w A nn cc l) (hsz : ∀ o ∈ l, o.bytes.size ≤ 70000) :
    Calls Try.prog 34 #[.slice A nn cc, .int .i64 n] w (BRd w (bVal l n) (bCode l n)) := by
  have HL := hide hr.1
  have HR := hide hr
  have HSZ := hide hsz
  have hcap : nn ≤ maxLen := Nat.le_trans hr.2.1 hr.2.2.1
  simp only [maxLen] at hcap
  clear hr hsz
  cases ho : ostr l n with
  | none =>
    have HV : Hid (bVal l n = none) := hide (by rw [bVal, ho]; rfl)
    have HC : Hid (bCode l n = 7) := hide (by rw [bCode, ho])
    have hx := ostr_none ho
    rw [HL.out] at hx
    clear ho
    rcases hx with hx | hx
    · go_enter Try.func34, Try.ntmps34
      go_wp2_with fail
      exact bodyPost_ret (v := .tuple #[.agg bunZ, .int .i64 7]) (by simp [results, Try.results34, go_sem]) rfl (by
        rw [HV.out, HC.out]
        exact brd_no (below1 _ _))
    · have hx0 : ¬ n < 0 := by omega
      go_enter Try.func34, Try.ntmps34
      go_wp2_with fail
      exact bodyPost_ret (v := .tuple #[.agg bunZ, .int .i64 7]) (by simp [results, Try.results34, go_sem]) rfl (by
        rw [HV.out, HC.out]
        exact brd_no (below1 _ _))
  | some o =>
    obtain ⟨k, rfl, hlk⟩ := ostr_some ho
    have hkn : k < nn := by have := (List.getElem?_eq_some_iff.1 hlk).1; have := HL.out; omega
    have HSB := hide (HSZ.out o (List.mem_of_getElem? hlk))
    obtain ⟨b, q, cs, hix, -, hbl, hK, hra⟩ := HR.out.index (P := Try.prog) Try.underlying22 (E := 28) out_under hlk
    have hKe := hK.1
    subst hKe
    have hc0 := hra 0 _ rfl
    have hc1 := hra 1 _ rfl
    have hc2 := hra 2 _ rfl
    simp only [Nat.add_zero] at hc0
    clear hlk hK hra
    cases hw : o.whole with
    | false =>
      have HV : Hid (bVal l k = none) := hide (by rw [bVal, ho, Option.bind_some, hw]; rfl)
      have HC : Hid (bCode l k = 7) := hide (by rw [bCode, ho]; simp [hw])
      rw [hw] at hc1
      clear ho hw
      go_enter Try.func34, Try.ntmps34
      go_wp2_with fail
      exact bodyPost_ret (v := .tuple #[.agg bunZ, .int .i64 7]) (by simp [results, Try.results34, go_sem]) rfl (by
        rw [HV.out, HC.out]
        exact brd_no (below1 _ _))
    | true =>
      have HV : Hid (bVal l k = bvalD (byt o.bytes)) := hide (by rw [bVal, ho, Option.bind_some, hw]; rfl)
      have HC : Hid (bCode l k = bcodeD (byt o.bytes)) := hide (by rw [bCode, ho]; simp [hw])
      rw [hw] at hc1
      clear ho hw
      go_enter Try.func34, Try.ntmps34
      go_wp2_with (refine at_tobytes (P := Try.prog) 9 60 o.bytes rfl Try.underlying9 Try.underlying60 Try.underlying5 ?_ (w.heap.size + 1) (by simp) ?_)
      · have := HSB.out; omega
      intro c4 w4 hr4 b4 hl4
      have HR4 := hide hr4
      have hz4 : row? w4 w.heap.size = some bunZ := row_of ((b4.block w.heap.size (by omega)).trans (heap_alloc_new _ _))
      have HB4 := hide ((below1 w (.cells bunZ 70)).trans (b4.mono (Nat.le_succ _)))
      clear hr4 b4 hix hbl hc0 hc1 hc2
      go_wp2_with fail
      refine (c_rbdecode _ _ c4 _ _ w4 HR4.out).mono ?_
      rintro e w5 ⟨A5, n5, c5, B5, m5, d5, rfl, hr5, hs5, b5⟩
      rw [← HV.out] at hr5 hs5 ⊢
      rw [← HC.out]
      obtain ⟨y, hy⟩ : ∃ y, y = (bVal l k).getD Bun.zero := ⟨_, rfl⟩
      rw [← hy] at hr5 hs5 ⊢
      have HY := hide hy
      have HR5 := hide hr5
      have HS5 := hide hs5
      have hz5 : row? w5 w.heap.size = some bunZ := by
        unfold row? at hz4 ⊢
        rw [b5.block _ (by omega)]
        exact hz4
      have HB5 := hide (HB4.out.trans (b5.mono HB4.out.size))
      have hsz4 : w.heap.size < w4.heap.size := by omega
      clear hr5 b5 hy hz4 hs5
      go_wp2_with fail
      exact bodyPost_ret (v := .tuple #[.agg (bunA y A5 n5 c5 B5 m5 d5), .int .i64 (bCode l k : Int)]) (by simp [results, Try.results34, go_sem, hz5]) rfl (by
        unfold BRd
        rw [← HY.out]
        exact ⟨A5, n5, c5, B5, m5, d5, rfl, (row_past HR5.out (by omega) _).more (fun k hk => by omega), (row_past HS5.out (by omega) _).more (fun k hk => by omega), bsetRow HB5.out (Nat.le_refl _) _⟩)
set_option maxRecDepth 100000 in
set_option maxHeartbeats 600000 in
theorem c_refT (ok : Nat → Prop) (w : World) (A : Option Addr) (nn cc : Nat) (l : List Out) (n : Int) (hr : kOut.Row ok w A nn cc l) (hsz : ∀ o ∈ l, o.bytes.size ≤ 70000) :
    Calls Try.prog 36 #[.slice A nn cc, .int .i64 n] w (TRd w (tVal l n) (tCode l n)) := by
  have HL := hide hr.1
  have HR := hide hr
  have HSZ := hide hsz
  have hcap : nn ≤ maxLen := Nat.le_trans hr.2.1 hr.2.2.1
  simp only [maxLen] at hcap
  clear hr hsz
  cases ho : ostr l n with
  | none =>
    have HV : Hid (tVal l n = none) := hide (by rw [tVal, ho]; rfl)
    have HC : Hid (tCode l n = 7) := hide (by rw [tCode, ho])
    have hx := ostr_none ho
    rw [HL.out] at hx
    clear ho
    rcases hx with hx | hx
    · go_enter Try.func36, Try.ntmps36
      go_wp2_with fail
      exact bodyPost_ret (v := .tuple #[.agg tokZ, .int .i64 7]) (by simp [results, Try.results36, go_sem]) rfl (by
        rw [HV.out, HC.out]
        exact trd_no 7 7 rfl (below1 _ _))
    · have hx0 : ¬ n < 0 := by omega
      go_enter Try.func36, Try.ntmps36
      go_wp2_with fail
      exact bodyPost_ret (v := .tuple #[.agg tokZ, .int .i64 7]) (by simp [results, Try.results36, go_sem]) rfl (by
        rw [HV.out, HC.out]
        exact trd_no 7 7 rfl (below1 _ _))
  | some o =>
    obtain ⟨k, rfl, hlk⟩ := ostr_some ho
    have hkn : k < nn := by have := (List.getElem?_eq_some_iff.1 hlk).1; have := HL.out; omega
    have HSB := hide (HSZ.out o (List.mem_of_getElem? hlk))
    obtain ⟨b, q, cs, hix, -, hbl, hK, hra⟩ := HR.out.index (P := Try.prog) Try.underlying22 (E := 28) out_under hlk
    have hKe := hK.1
    subst hKe
    have hc0 := hra 0 _ rfl
    have hc1 := hra 1 _ rfl
    have hc2 := hra 2 _ rfl
    simp only [Nat.add_zero] at hc0
    clear hlk hK hra
    cases hw : o.whole with
    | true =>
      have HV : Hid (tVal l k = none) := hide (by rw [tVal, ho, Option.bind_some, hw]; rfl)
      have HC : Hid (tCode l k = 7) := hide (by rw [tCode, ho]; simp [hw])
      rw [hw] at hc1
      clear ho hw
      go_enter Try.func36, Try.ntmps36
      go_wp2_with fail
      exact bodyPost_ret (v := .tuple #[.agg tokZ, .int .i64 7]) (by simp [results, Try.results36, go_sem]) rfl (by
        rw [HV.out, HC.out]
        exact trd_no 7 7 rfl (below1 _ _))
    | false =>
      have HV : Hid (tVal l k = pdec (byt o.bytes)) := hide (by rw [tVal, ho, Option.bind_some, hw]; rfl)
      have HC : Hid (tCode l k = if (pdec (byt o.bytes)).isSome then 0 else 2) := hide (by rw [tCode, ho]; simp [hw])
      rw [hw] at hc1
      clear ho hw
      go_enter Try.func36, Try.ntmps36
      go_wp2_with (refine at_tobytes (P := Try.prog) 9 60 o.bytes rfl Try.underlying9 Try.underlying60 Try.underlying5 ?_ (w.heap.size + 1) (by simp) ?_)
      · have := HSB.out; omega
      intro c4 w4 hr4 b4 hl4
      have HR4 := hide hr4
      have hz4 : row? w4 w.heap.size = some tokZ := row_of ((b4.block w.heap.size (by omega)).trans (heap_alloc_new _ _))
      have HB4 := hide ((below1 w (.cells tokZ 59)).trans (b4.mono (Nat.le_succ _)))
      clear hr4 b4 hix hbl hc0 hc1 hc2
      go_wp2_with fail
      refine (c_rdecode _ _ c4 _ _ w4 HR4.out (by have := HSB.out; omega)).mono ?_
      rintro e w5 ⟨A5, n5, c5, rfl, hr5, b5⟩
      rw [rdec_eq, ← HV.out] at hr5 ⊢
      have HR5 := hide hr5
      have hz5 : row? w5 w.heap.size = some tokZ := by
        unfold row? at hz4 ⊢
        rw [b5.block _ (by omega)]
        exact hz4
      have hl5 := b5.size
      have HB5 := hide (HB4.out.trans (b5.mono HB4.out.size))
      have hsz4 : w.heap.size < w4.heap.size := by omega
      have hsz5 : w.heap.size < w5.heap.size := by omega
      clear hr5 b5 hz4
      cases hp : tVal l k with
      | none =>
        have HC2 : Hid (tCode l k = 2) := hide (by rw [HC.out, ← HV.out, hp]; rfl)
        have HP := hide hp
        clear hp
        simp only [Option.getD_none, Option.isSome_none]
        go_wp2_with fail
        exact bodyPost_ret (v := .tuple #[.agg tokZ, .int .i64 2]) (by simp [results, Try.results36, go_sem, hz5, hsz5]) rfl (by
          rw [HP.out, HC2.out]
          exact trd_no 2 2 rfl (by repeat (first | exact HB5.out | refine Below.alloc ?_ (by first | omega | (simp; omega)) _ | refine bsetRow ?_ (by omega) _)))
      | some y =>
        rw [hp] at HR5
        have HC2 : Hid (tCode l k = 0) := hide (by rw [HC.out, ← HV.out, hp]; rfl)
        have HP := hide hp
        clear hp
        simp only [Option.getD_some, Option.isSome_some] at HR5 ⊢
        go_wp2_with fail
        exact bodyPost_ret (v := .tuple #[.agg (tokA y A5 n5 c5), .int .i64 0]) (by simp [results, Try.results36, go_sem, hz5, hsz5]) rfl (by
          rw [HP.out, HC2.out]
          exact ⟨A5, n5, c5, rfl, ((row_past HR5.out hsz4 _).alloc _).more (fun k hk => by omega), by repeat (first | exact HB5.out | refine Below.alloc ?_ (by first | omega | (simp; omega)) _ | refine bsetRow ?_ (by omega) _)⟩)
end Go.Proofs.Ytlfhbnajopekpaa
