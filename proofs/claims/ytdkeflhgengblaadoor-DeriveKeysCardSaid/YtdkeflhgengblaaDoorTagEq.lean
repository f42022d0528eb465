/- Whether two tags are one. No condition. -/
import Derived.Test.YtdkeflhgengblaaDoorAgg
import Derived.Test.YtdkeflhgengblaaDoorFld
import Derived.Stop.BytesEq
namespace Go.Proofs.YtdkeflhgengblaaDoor
open Go.RowKit
theorem tg_size (w : World) : (sizeOf 5).run Tryd.prog w = .ok 1 w := by
  have h : (Tryd.prog.info? 5).map (·.size) = some 1 := by kernel_rfl
  simp [sizeOf, go_sem, Tryd.t5]
set_option maxRecDepth 100000 in
theorem tg_eql (w : World) (t u : Tg) : (binOp .eql 29 (tgV t) (tgV u)).run Tryd.prog w = .ok (.bool (decide (t = u))) w := by
  have h := run_eql_bytes (P := Tryd.prog) w 29 5 32 Tryd.underlying29 Tryd.underlying5 tg_size t.l u.l t.len u.len
  have e : (t.l == u.l) = decide (t = u) := by
    rw [Bool.eq_iff_iff]
    cases t; cases u
    simp
  rw [e] at h
  exact h
theorem tg_neq (w : World) (t u : Tg) : (binOp .neq 29 (tgV t) (tgV u)).run Tryd.prog w = .ok (.bool (!decide (t = u))) w := by
  have h := tg_eql w t u
  unfold tgV at h ⊢
  rw [run_eql_struct] at h
  rw [run_neq_struct]
  cases hq : (Op.equalIn 10000 29 (.agg (tgC t)) (.agg (tgC u))).run Tryd.prog w with
  | ok b w' =>
    rw [hq] at h
    simp only [Result.andThen_ok, Result.ok.injEq, Value.bool.injEq] at h ⊢
    exact ⟨by rw [h.1], h.2⟩
  | _ => rw [hq] at h; cases h
theorem tg_in (w : World) (t u : Tg) : (Op.equalIn 10000 29 (.agg (tgC t)) (.agg (tgC u))).run Tryd.prog w = .ok (decide (t = u)) w := by
  have h := tg_eql w t u
  unfold tgV at h
  rw [run_eql_struct] at h
  cases hq : (Op.equalIn 10000 29 (.agg (tgC t)) (.agg (tgC u))).run Tryd.prog w with
  | ok b w' =>
    rw [hq] at h
    simp only [Result.andThen_ok, Result.ok.injEq, Value.bool.injEq] at h
    rw [h.1, h.2]
  | _ => rw [hq] at h; cases h
theorem opt_bool {o : Option Value} {b : Bool} (h : o.getD undef = .bool b) : o = some (.bool b) := by
  cases o with
  | none => cases h
  | some v => simpa using h
end Go.Proofs.YtdkeflhgengblaaDoor
