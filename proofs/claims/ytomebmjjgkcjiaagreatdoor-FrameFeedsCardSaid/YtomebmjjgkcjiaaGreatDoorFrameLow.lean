/-
  frame.lower, frame.number: their contracts, in the printer's words.
-/
import Derived.Test.YtomebmjjgkcjiaaGreatDoorFrameAny
import Derived.Lib.ConvBytes
import Derived.WalkSmall
set_option linter.unusedVariables false
namespace Go.Proofs.YtomebmjjgkcjiaaGreatDoor.G
open Go.RowKit Go.Proofs.YtomebmjjgkcjiaaGreatDoorW.PrintWords Go.Lib
def lowB (b : UInt8) : UInt8 := if 65 ≤ b.toNat ∧ b.toNat ≤ 90 then b + 32 else b
def GLower.f (a0 : ByteArray) : Option ByteArray := if a0.size < 4611686018427387904 then some ⟨(a0.data.toList.map lowB).toArray⟩ else none
def LowAt (w wr : World) (s : ByteArray) (i : Nat) : Prop :=
  (∀ j, j < s.size → wr.cell? ⟨w.heap.size, j, none⟩ = some (.int .u8 ((if j < i then lowB (s.data.toList.getD j 0) else s.data.toList.getD j 0).toNat))) ∧ (∀ j, j < s.size → wr.frozen? ⟨w.heap.size, j, none⟩ = false) ∧ Below w.heap.size w wr
theorem LowAt.zero (w : World) (s : ByteArray) : LowAt w (bytesWorld w 5 s) s 0 := by
  refine ⟨fun j hj => ?_, fun j hj => ?_, conv_below w _ s⟩
  · rw [bytesWorld_cell w _ s j hj]; simp
  · unfold World.frozen?
    rw [show (bytesWorld w 5 s).heap[(⟨w.heap.size, j, none⟩ : Addr).block]? = _ from bytesWorld_at_new w _ s]
    have : (bytesCells w 5 s).size ≥ s.size := by unfold bytesCells; rw [Array.size_append, Array.size_map]; exact Nat.le_add_right _ _
    simp only
    generalize (bytesCells w 5 s).size = N at *
    simp
    omega
theorem LowAt.keep {w wr : World} {s : ByteArray} {i : Nat} (h : LowAt w wr s i) {x : UInt8} (hi : i < s.size) (hx : s.data.toList.getD i 0 = x) (hl : lowB x = x) : LowAt w wr s (i + 1) := by
  refine ⟨fun j hj => ?_, h.2⟩
  rw [h.1 j hj]
  by_cases e : j = i
  · subst e
    rw [if_neg (Nat.lt_irrefl _), if_pos (Nat.lt_succ_self _), hx, hl]
  · by_cases c : j < i
    · rw [if_pos c, if_pos (by omega)]
    · rw [if_neg c, if_neg (by omega)]
theorem LowAt.step {w wr : World} {s : ByteArray} {i : Nat} (h : LowAt w wr s i) {x : UInt8} (hi : i < s.size) (hx : s.data.toList.getD i 0 = x) {u : Value} (hu : u = .int .u8 (lowB x).toNat) : LowAt w (wr.setCell ⟨w.heap.size, i, none⟩ u) s (i + 1) := by
  refine ⟨fun j hj => ?_, fun j hj => ?_, h.2.2.setCell (Nat.le_refl _) _⟩
  · by_cases e : j = i
    · subst e
      rw [World.cell?_setCell_same' _ _ _ (by rw [h.1 j hj]; rfl), if_pos (Nat.lt_succ_self _), hx, hu]
    · rw [World.cell?_setCell_other _ _ _ _ (by intro e2; cases e2; exact e rfl), h.1 j hj]
      by_cases c : j < i
      · rw [if_pos c, if_pos (by omega)]
      · rw [if_neg c, if_neg (by omega)]
  · rw [World.frozen?_setCell]; exact h.2.1 j hj
theorem LowAt.back {P : Program} {w wr : World} {s : ByteArray} (h : LowAt w wr s s.size) (hs : P.underlying 27 = some (.slice 5)) (he : P.underlying 5 = some (.int .u8)) (hd : P.underlying 9 = some .string) (cap : Nat) :
    (convert 27 9 (.slice (some ⟨w.heap.size, 0, none⟩) s.size cap)).run P wr = .ok (.string ⟨(s.data.toList.map lowB).toArray⟩) wr := by
  have := run_convert_bytes_back (P := P) wr 27 9 5 ⟨w.heap.size, 0, none⟩ cap (s.data.toList.map lowB) hs he hd (fun j hj => by
    rw [List.length_map, ← Lib.size_eq] at hj
    have ha : (Addr.add ⟨w.heap.size, 0, none⟩ j) = ⟨w.heap.size, j, none⟩ := by
      unfold Addr.add
      split
      · rename_i h; rw [h]
      · simp
    rw [ha, h.1 j hj, if_pos hj]
    have hj' : j < s.data.toList.length := by rw [← Lib.size_eq]; exact hj
    simp [List.getD_eq_getElem?_getD, List.getElem?_eq_getElem hj'])
  rw [List.length_map, ← Lib.size_eq] at this
  exact this
set_option maxHeartbeats 2000000 in
set_option maxRecDepth 100000 in
theorem GLower.calls (a0 : ByteArray) (r : ByteArray) (w : World) (h : GLower.f a0 = some r) :
    Calls Tryz.prog 43 #[.string a0] w fun e w' => e = .returned (.string r) ∧ Below w.heap.size w w' := by
  unfold GLower.f at h
  split at h
  case isFalse => cases h
  case isTrue hs =>
    obtain rfl := Option.some.inj h
    have HS := Aside0.mk hs
    have hconv := fun W => Lib.run_convert_string_bytes (P := Tryz.prog) W 9 27 5 a0 Tryz.underlying9 Tryz.underlying27 Tryz.underlying5
    clear hs
    have HZ := Aside0.mk (LowAt.zero w a0)
    go_enter Tryz.func43, Tryz.ntmps43
    go_wp2_with (fail)
    clear hconv
    go_loopg [4, 5, 10] a0.size (fun g _ _ v wx => ∃ i : Nat, i + g = a0.size ∧ v = .int .i64 i ∧ Aside0 (LowAt w wx a0 i))
    case atStart => exact ⟨0, by omega, rfl, HZ⟩
    case round =>
      obtain ⟨i, hig, rfl, HL⟩ := hrel
      by_cases hlt : i < a0.size
      · obtain ⟨x, hx⟩ : ∃ x : UInt8, a0.data.toList.getD i 0 = x := ⟨_, rfl⟩
        have hcell := HL.out.1 i hlt
        rw [if_neg (Nat.lt_irrefl i), hx] at hcell
        have hfr := HL.out.2.1 i hlt
        have hltz : (i : Int) < (a0.size : Int) := by omega
        by_cases hup : 65 ≤ x.toNat ∧ x.toNat ≤ 90
        · have c1 : (65 : Int) ≤ x.toNat := by omega
          have c2 : (x.toNat : Int) ≤ 90 := by omega
          have hw1 : wrap64 ((i : Int) + 1) = ((i + 1 : Nat) : Int) := by unfold wrap64; have := HS.out; omega
          have HN := Aside0.mk (HL.out.step hlt hx (u := .int .u8 ((x.toNat : Int) + 97 - 65)) (by
            have e : (x + 32).toNat = x.toNat + 32 := by rw [UInt8.toNat_add]; simp; omega
            unfold lowB; rw [if_pos hup, e]; congr 1; omega))
          go_wp2_with (fail)
          obtain ⟨g, rfl⟩ : ∃ g, gk = g + 1 := ⟨gk - 1, by omega⟩
          rw [hw1]
          go_roundg g
          case measure => omega
          case rel => exact ⟨i + 1, by omega, rfl, HN⟩
        · have hw1 : wrap64 ((i : Int) + 1) = ((i + 1 : Nat) : Int) := by unfold wrap64; have := HS.out; omega
          have HN := Aside0.mk (HL.out.keep hlt hx (by unfold lowB; rw [if_neg hup]))
          have Hup := Aside0.mk hup
          clear hup
          by_cases c1 : (65 : Int) ≤ x.toNat
          · have c2 : ¬ ((x.toNat : Int) ≤ 90) := by have := Hup.out; omega
            go_wp2_with (fail)
            obtain ⟨g, rfl⟩ : ∃ g, gk = g + 1 := ⟨gk - 1, by omega⟩
            try rw [hw1]
            go_roundg g
            case measure => omega
            case rel => exact ⟨i + 1, by omega, rfl, HN⟩
          · go_wp2_with (fail)
            obtain ⟨g, rfl⟩ : ∃ g, gk = g + 1 := ⟨gk - 1, by omega⟩
            try rw [hw1]
            go_roundg g
            case measure => omega
            case rel => exact ⟨i + 1, by omega, rfl, HN⟩
      · have hltz : ¬ ((i : Int) < (a0.size : Int)) := by omega
        obtain rfl : i = a0.size := by omega
        have hend := HL.out.back (P := Tryz.prog) Tryz.underlying27 Tryz.underlying5 Tryz.underlying9
        go_wp2_with (fail)
        go_ret
        exact ⟨rfl, HL.out.2.2⟩
theorem trimS_le (l cs : List UInt8) : (Lib.trimS l cs).length ≤ l.length := by
  unfold Lib.trimS Lib.trimLeftS Lib.trimRightS
  refine Nat.le_trans ((List.dropWhile_sublist _).length_le) ?_
  rw [List.length_reverse]
  refine Nat.le_trans ((List.dropWhile_sublist _).length_le) ?_
  rw [List.length_reverse]
  exact Nat.le_refl _
theorem isEmpty_of (T : ByteArray) (t : List UInt8) (h : T.data.toList = t) : T.toList.isEmpty = decide (t = []) := by
  rw [Lib.toList_data, h]
  cases t <;> simp
def digs : List UInt8 := [48, 49, 50, 51, 52, 53, 54, 55, 56, 57]
def numL (l : List UInt8) : Option (Int × Bool) :=
  let t := Lib.trimS l [32, 9]
  if t = [] ∨ 6 < t.length ∨ Lib.trimS t digs ≠ [] then some (0, false) else (Lib.atoi t).map fun n => (n, true)
def GNumber.f (a0 : ByteArray) : Option (Int × Bool) := if a0.size < 4294967281 then numL a0.data.toList else none
set_option maxHeartbeats 2000000 in
set_option maxRecDepth 100000 in
theorem GNumber.calls (a0 : ByteArray) (r1 : Int) (r2 : Bool) (w : World) (h : GNumber.f a0 = some (r1, r2)) :
    Calls Tryz.prog 32 #[.string a0] w fun e w' => e = .returned (.tuple #[.int .i64 r1, .bool r2]) ∧ Below w.heap.size w w' := by
  unfold GNumber.f at h
  split at h
  case isFalse => cases h
  case isTrue hs =>
    have H1 := Aside0.mk (fun W => GTrim.calls a0 ⟨#[32, 9]⟩ _ W (by unfold GTrim.f; rw [if_pos ⟨by omega, by decide, by decide⟩]))
    unfold numL at h
    simp only at h
    have hlen : (Lib.trimS a0.data.toList [32, 9]).length < 4294967281 := by
      have : (Lib.trimS a0.data.toList [32, 9]).length ≤ a0.data.toList.length := trimS_le _ _
      rw [← Lib.size_eq] at this
      omega
    change Aside0 (∀ W, Calls _ _ _ W fun e w' => e = Ending.returned (Value.string ⟨(Lib.trimS a0.data.toList [32, 9]).toArray⟩) ∧ _) at H1
    generalize Lib.trimS a0.data.toList [32, 9] = t at *
    obtain ⟨T, hT⟩ : ∃ T : ByteArray, T = ⟨t.toArray⟩ := ⟨_, rfl⟩
    rw [← hT] at H1
    have hTt : T.data.toList = t := by rw [hT]
    have hTs : T.size = t.length := by rw [Lib.size_eq, hTt]
    have H2 := Aside0.mk (fun W => GTrim.calls T ⟨#[48, 49, 50, 51, 52, 53, 54, 55, 56, 57]⟩ _ W (by unfold GTrim.f; rw [if_pos ⟨by omega, by decide, by decide⟩]))
    rw [hTt] at H2
    change Aside0 (∀ W, Calls _ _ _ W fun e w' => e = Ending.returned (Value.string ⟨(Lib.trimS t digs).toArray⟩) ∧ _) at H2
    have H3 := Aside0.mk (fun n (hn : Lib.atoi t = some n) (h18 : t.length ≤ 18) W => Atoi_calls T n W (by omega) (by rw [hTt]; exact hn))
    have Hh := Aside0.mk h
    have hE := isEmpty_of T t hTt
    have HTs := Aside0.mk hTs
    clear h hs hlen hTt hT hTs
    by_cases c1 : t = []
    · rw [decide_eq_true c1] at hE
      go_enter Tryz.func32, Tryz.ntmps32
      go_wp2_with (go_at_call 44; refine (H1.out _).mono ?_; rintro e w1 ⟨rfl, hb⟩; have HB1 := Aside0.mk hb; clear hb)
      go_ret2
      have := Hh.out
      rw [if_pos (Or.inl c1)] at this
      simp only [Option.some.injEq, Prod.mk.injEq] at this
      obtain ⟨rfl, rfl⟩ := this
      exact ⟨rfl, HB1.out⟩
    · rw [decide_eq_false c1] at hE
      by_cases c2 : 6 < t.length
      · have h6 : (6 : Int) < (T.size : Int) := by rw [HTs.out]; omega
        go_enter Tryz.func32, Tryz.ntmps32
        go_wp2_with (go_at_call 44; refine (H1.out _).mono ?_; rintro e w1 ⟨rfl, hb⟩; have HB1 := Aside0.mk hb; clear hb)
        go_ret2
        have := Hh.out
        rw [if_pos (Or.inr (Or.inl c2))] at this
        simp only [Option.some.injEq, Prod.mk.injEq] at this
        obtain ⟨rfl, rfl⟩ := this
        exact ⟨rfl, HB1.out⟩
      · have h6 : ¬ ((6 : Int) < (T.size : Int)) := by rw [HTs.out]; omega
        obtain ⟨U, hU⟩ : ∃ U : ByteArray, (⟨(Lib.trimS t digs).toArray⟩ : ByteArray) = U := ⟨_, rfl⟩
        rw [hU] at H2
        have hE2 := isEmpty_of U (Lib.trimS t digs) (by rw [← hU])
        clear hU
        by_cases c3 : Lib.trimS t digs = []
        · rw [decide_eq_true c3] at hE2
          have h := Hh.out
          rw [if_neg (by rintro (e | e | e); exact c1 e; exact c2 e; exact e c3)] at h
          cases ha : Lib.atoi t with
          | none => rw [ha] at h; cases h
          | some n =>
            rw [ha] at h
            simp only [Option.map_some, Option.some.injEq, Prod.mk.injEq] at h
            obtain ⟨rfl, rfl⟩ := h
            have H4 := Aside0.mk (H3.out n ha (by omega))
            clear H3 ha Hh
            go_enter Tryz.func32, Tryz.ntmps32
            go_wp2_with (first | (go_at_call 44; refine (H1.out _).mono ?_; rintro e w1 ⟨rfl, hb⟩; have HB1 := Aside0.mk hb; clear hb H1) | (go_at_call 44; refine (H2.out _).mono ?_; rintro e w2 ⟨rfl, hb⟩; have HB2 := Aside0.mk hb; clear hb) | (go_at_call 46; refine (H4.out _).mono ?_; rintro e w3 ⟨rfl, hb⟩; have HB3 := Aside0.mk hb; clear hb))
            go_quiet (fail)
            go_wp2_with (fail)
            go_ret2
            exact ⟨rfl, pw_below_drewN (below_step (below_step HB1.out HB2.out) HB3.out) nq⟩
        · rw [decide_eq_false c3] at hE2
          go_enter Tryz.func32, Tryz.ntmps32
          go_wp2_with (first | (go_at_call 44; refine (H1.out _).mono ?_; rintro e w1 ⟨rfl, hb⟩; have HB1 := Aside0.mk hb; clear hb H1) | (go_at_call 44; refine (H2.out _).mono ?_; rintro e w2 ⟨rfl, hb⟩; have HB2 := Aside0.mk hb; clear hb))
          go_ret2
          have := Hh.out
          rw [if_pos (Or.inr (Or.inr c3))] at this
          simp only [Option.some.injEq, Prod.mk.injEq] at this
          obtain ⟨rfl, rfl⟩ := this
          exact ⟨rfl, below_step HB1.out HB2.out⟩
end Go.Proofs.YtomebmjjgkcjiaaGreatDoor.G
