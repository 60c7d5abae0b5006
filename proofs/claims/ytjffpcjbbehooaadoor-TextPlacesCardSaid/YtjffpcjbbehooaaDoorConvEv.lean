/-
  []byte(s) as an event of a walk: a new row that reads as the text's bytes; what was there is there.
-/
import Derived.Test.YtjffpcjbbehooaaDoorConv
namespace Go.Proofs.YtjffpcjbbehooaaDoorW.PrintWords
open Go.RowKit Go.Lib Go.Proofs.YtjffpcjbbehooaaDoor.G
section
variable {P : Program} {ops : Array Oper} {rest : List Oper} {o : Oper} {a : Act} {Q : Exit → Act → World → Prop} {Kc : Act → World → Prop}
theorem conv_run {W : World} {e : TypeId} {s : ByteArray} (src dst : TypeId) (x : Operand) (ho : o.op = .convert src dst x) (hx : a.eval x = .string s) {u : TypeDesc} (hs : P.underlying src = some u) (hd : P.underlying dst = some (.slice e)) (he : P.underlying e = some (.int .u8)) :
    (execOp a.eval o).run P W = .ok (.value (.slice (some ⟨W.heap.size, 0, none⟩) (bytesOf s).length (grownCap W s.size 0 e))) (bytesWorld W e s) := by
  have := Lib.run_convert_string_bytes (P := P) W src dst e s hs hd he
  rw [bytesOf_length]
  simp [execOp, ho, hx, this]
theorem conv_event {W : World} {e : TypeId} {s : ByteArray} (src dst : TypeId) (hgd : o.guard = none) {N : Tmp} (_hd : o.dst = some N) (x : Operand) (ho : o.op = .convert src dst x) (hx : a.eval x = .string s) {u : TypeDesc} (hs : P.underlying src = some u) (hd : P.underlying dst = some (.slice e)) (he : P.underlying e = some (.int .u8)) (hl : s.size ≤ 9223372036854775807) {y : List Int} (hy : y = bytesOf s)
    (h : ∀ (A : Option Addr) (c : Nat) w1, Kd.C (Kd.int .u8) w1 A y.length y → y.length ≤ c → Below W.heap.size W w1 → wpList P ops Q rest (a.put o.dst (.slice A y.length c)) w1) : wpList P ops Q (o :: rest) a W := by
  subst hy
  exact Kd.event_run hgd (conv_run src dst x ho hx hs hd he) (h _ _ _ (conv_reads W e s hl) (by rw [bytesOf_length]; exact conv_cap W e s) (conv_below W e s))
theorem conv_step {W : World} {e : TypeId} {s : ByteArray} (src dst : TypeId) (hw : Region.wanted o (yielded ops a.tmps) = true) {N : Tmp} (_hd : o.dst = some N) (x : Operand) (ho : o.op = .convert src dst x) (hx : a.eval x = .string s) {u : TypeDesc} (hs : P.underlying src = some u) (hd : P.underlying dst = some (.slice e)) (he : P.underlying e = some (.int .u8)) (hl : s.size ≤ 9223372036854775807) {y : List Int} (hy : y = bytesOf s)
    (h : ∀ (A : Option Addr) (c : Nat) w1, Kd.C (Kd.int .u8) w1 A y.length y → y.length ≤ c → Below W.heap.size W w1 → Kc (a.put o.dst (.slice A y.length c)) w1) : if Region.wanted o (yielded ops a.tmps) = true then Oper.wp P o a W Kc Q else Kc (a.put o.dst undef) W := by
  subst hy
  exact event_step hw (conv_run src dst x ho hx hs hd he) (h _ _ _ (conv_reads W e s hl) (by rw [bytesOf_length]; exact conv_cap W e s) (conv_below W e s))
end
end Go.Proofs.YtjffpcjbbehooaaDoorW.PrintWords
