/-
  []byte(s): what a read finds in the new row; what was there is there.
  []byte(s) as an event of a walk: a new row that reads as the text's bytes; what was there is there.
-/
import Derived.Test.YtomebmjjgkcjiaaGreatDoorWWords
import Derived.Lib.ConvBytes
import Derived.Laws.NewBlocks
import Derived.Lib.ValidLaws
section
set_option linter.unusedVariables false
namespace Go.Proofs.YtomebmjjgkcjiaaGreatDoor.G
open Go.RowKit Go.Lib Go.Proofs.YtomebmjjgkcjiaaGreatDoorW.PrintWords
theorem conv_below (w : World) (e : TypeId) (s : ByteArray) : Below w.heap.size w (bytesWorld w e s) := by
  refine ⟨?_, ?_, ?_, by rw [bytesWorld_size]; omega, fun k hk => bytesWorld_at_old w e s k hk⟩
  all_goals
    unfold bytesWorld World.freeze
    split <;> rfl
theorem conv_reads (w : World) (e : TypeId) (s : ByteArray) (hs : s.size ≤ 9223372036854775807) : Kd.C (Kd.int .u8) (bytesWorld w e s) (some ⟨w.heap.size, 0, none⟩) (bytesOf s).length (bytesOf s) := by
  refine Kd.C_of_reads (d := (0 : Int)) (h1 := fun _ => rfl) ⟨rfl, by rw [bytesOf_length]; exact hs, fun _ => ⟨_, rfl, fun j hj => ?_⟩⟩
  rw [bytesOf_length] at hj
  have ha : (Addr.add ⟨w.heap.size, 0, none⟩ j) = ⟨w.heap.size, j, none⟩ := by
    unfold Addr.add
    split
    · rename_i h; rw [h]
    · simp
  have hj' : j < s.data.toList.length := Nat.lt_of_lt_of_eq hj (Lib.size_eq s)
  rw [ha, bytesWorld_cell w e s j hj]
  simp only [bytesOf, List.getD_eq_getElem?_getD, List.getElem?_map, List.getElem?_eq_getElem hj', Option.map_some, Option.getD_some]
theorem conv_cap (w : World) (e : TypeId) (s : ByteArray) : s.size ≤ grownCap w s.size 0 e := grownCap_ge w s.size 0 e
theorem one_cell_new (w : World) (v : Value) (t : TypeId) : ∀ j u, [v][j]? = some u → (w.alloc (.cells #[v] t)).cell? ((⟨w.heap.size, 0, none⟩ : Addr).add j) = some u := by
  intro j u hj
  match j, hj with
  | 0, hj => simp at hj; subst hj; simp [Addr.add]
  | j + 1, hj => simp at hj
theorem one_cell_ok {k : IntKind} {x : Int} : ∀ u ∈ [Value.int k x], u.oneCell' = true := by
  intro u hu
  simp at hu
  subst hu
  rfl
end Go.Proofs.YtomebmjjgkcjiaaGreatDoor.G
end
section
namespace Go.Proofs.YtomebmjjgkcjiaaGreatDoorW.PrintWords
open Go.RowKit Go.Lib Go.Proofs.YtomebmjjgkcjiaaGreatDoor.G
section
variable {P : Program} {ops : Array Oper} {rest : List Oper} {o : Oper} {a : Act} {Q : Exit → Act → World → Prop} {Kc : Act → World → Prop}
theorem conv_run {W : World} {e : TypeId} {s : ByteArray} (src dst : TypeId) (x : Operand) (ho : o.op = .convert src dst x) (hx : a.eval x = .string s) {u : TypeDesc} (hs : P.underlying src = some u) (hd : P.underlying dst = some (.slice e)) (he : P.underlying e = some (.int .u8)) :
    (execOp a.eval o).run P W = .ok (.value (.slice (some ⟨W.heap.size, 0, none⟩) (bytesOf s).length (grownCap W s.size 0 e))) (bytesWorld W e s) := by
  have := Lib.run_convert_string_bytes (P := P) W src dst e s hs hd he
  rw [bytesOf_length]
  simp [execOp, ho, hx, this]
theorem conv_event {W : World} {e : TypeId} {s : ByteArray} (src dst : TypeId) (hgd : o.guard = none) {N : Tmp} (_hd : o.dst = some N) (x : Operand) (ho : o.op = .convert src dst x) (hx : a.eval x = .string s) {u : TypeDesc} (hs : P.underlying src = some u) (hd : P.underlying dst = some (.slice e)) (he : P.underlying e = some (.int .u8)) (hl : s.size ≤ 9223372036854775807) {y : List Int} (hy : y = bytesOf s)
    (h : ∀ (A : Option Addr) (c : Nat) w1, Kd.C (Kd.int .u8) w1 A y.length y → y.length ≤ c → Below W.heap.size W w1 → wpList P ops Q rest (a.put o.dst (.slice A y.length c)) w1) : wpList P ops Q (o :: rest) a W := by
  subst hy
  exact Kd.event_run hgd (conv_run src dst x ho hx hs hd he) (h _ _ _ (conv_reads W e s hl) (by rw [bytesOf_length]; exact conv_cap W e s) (conv_below W e s))
theorem conv_step {W : World} {e : TypeId} {s : ByteArray} (src dst : TypeId) (hw : Region.wanted o (yielded ops a.tmps) = true) {N : Tmp} (_hd : o.dst = some N) (x : Operand) (ho : o.op = .convert src dst x) (hx : a.eval x = .string s) {u : TypeDesc} (hs : P.underlying src = some u) (hd : P.underlying dst = some (.slice e)) (he : P.underlying e = some (.int .u8)) (hl : s.size ≤ 9223372036854775807) {y : List Int} (hy : y = bytesOf s)
    (h : ∀ (A : Option Addr) (c : Nat) w1, Kd.C (Kd.int .u8) w1 A y.length y → y.length ≤ c → Below W.heap.size W w1 → Kc (a.put o.dst (.slice A y.length c)) w1) : if Region.wanted o (yielded ops a.tmps) = true then Oper.wp P o a W Kc Q else Kc (a.put o.dst undef) W := by
  subst hy
  exact event_step hw (conv_run src dst x ho hx hs hd he) (h _ _ _ (conv_reads W e s hl) (by rw [bytesOf_length]; exact conv_cap W e s) (conv_below W e s))
end
end Go.Proofs.YtomebmjjgkcjiaaGreatDoorW.PrintWords
end
