/- Texts turned into bytes, and parts of texts. No condition. -/
import Derived.Test.YtckcadhjpjjmjaaDoorRepB
namespace Go.Proofs.YtckcadhjpjjmjaaDoor
open Go.RowKit
/-- []byte(text), at the operation. -/
theorem wp_tobytes {P : Program} {E : TypeId} {w : World} {op : Oper} {a : Act} {K : Act → World → Prop} {Q : Exit → Act → World → Prop} (S D : TypeId) (x : Operand) (ho : op.op = .convert S D x) (s : ByteArray) (hx : a.eval x = .string s)
    (hS : P.underlying S = some .string) (hD : P.underlying D = some (.slice E)) (hE : P.underlying E = some (.int .u8)) (hs : s.size ≤ 9223372036854775807)
    (k : ∀ c w', kU8.Row (fun k => k = w.heap.size) w' (some ⟨w.heap.size, 0, none⟩) s.size c (byt s) → Below w.heap.size w w' → K (a.put op.dst (.slice (some ⟨w.heap.size, 0, none⟩) s.size c)) w') : op.wp P a w K Q := by
  unfold Oper.wp execOp
  simp only [ho, hx, Sem.run_bind, Sem.run_pure, Result.andThen_ok, Lib.run_convert_string_bytes w S D E s hS hD hE]
  exact k _ _ (bytes_new w E s hs) (bytesWorld_below w E s)

/-- A part of a text. -/
theorem ext_txt (s : List UInt8) (i j : Nat) : (txt s).extract i j = txt ((s.drop i).take (j - i)) := by
  apply ByteArray.ext
  rw [ByteArray.data_extract]
  apply Array.toList_inj.1
  simp [List.extract_eq_take_drop]
theorem ext_is {s l : List UInt8} {i j a b : Nat} (h : (s.drop a).take (b - a) = l) (hi : i = a) (hj : j = b) : Value.string ((txt s).extract i j) = .string (txt l) := by
  subst hi hj
  rw [ext_txt, h]
end Go.Proofs.YtckcadhjpjjmjaaDoor
