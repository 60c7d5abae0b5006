/-
  Plain facts: what two texts share at their fronts and at their ends, by runes; the last rune of a text.
  text.Between: its contract, in the printer's words.
-/
import Derived.Test.YtjffpcjbbehooaaDoorTextTheory
import Derived.Lib.SpaceU
import Derived.Shelf.Unicode.DecodeLast
import Derived.Test.YtjffpcjbbehooaaDoorTextFns
import Derived.Test.YtjffpcjbbehooaaDoorTextGiven
import Derived.Deep.QuietTactic
import Derived.BigQuiet
import Derived.Deep.DeepCutAuto
import Derived.Deep.CutBlock
import Derived.Outline
import Derived.IntWalk
section
namespace Go.Proofs.YtjffpcjbbehooaaDoor.G
open Go.Lib
/-- How many runes two rows share at the front. -/
def lcp : List Int → List Int → Nat
  | a :: x, b :: y => if a = b then lcp x y + 1 else 0
  | _, _ => 0
theorem lcp_nil_left (y : List Int) : lcp [] y = 0 := by unfold lcp; rfl
theorem lcp_nil_right (x : List Int) : lcp x [] = 0 := by cases x <;> rfl
theorem lcp_cons (a b : Int) (x y : List Int) : lcp (a :: x) (b :: y) = if a = b then lcp x y + 1 else 0 := rfl
theorem lcp_append : ∀ (pre x y : List Int), lcp (pre ++ x) (pre ++ y) = pre.length + lcp x y
  | [], x, y => by simp
  | a :: pre, x, y => by
    simp only [List.cons_append, lcp_cons, if_true, lcp_append pre x y, List.length_cons]
    omega
/-- .. and at the end. -/
def lcs (x y : List Int) : Nat := lcp x.reverse y.reverse
theorem lcs_append (x y suf : List Int) : lcs (x ++ suf) (y ++ suf) = suf.length + lcs x y := by
  unfold lcs
  rw [List.reverse_append, List.reverse_append, lcp_append, List.length_reverse]
theorem lcs_nil_left (y : List Int) : lcs [] y = 0 := by unfold lcs; exact lcp_nil_left _
theorem lcs_nil_right (x : List Int) : lcs x [] = 0 := by unfold lcs; exact lcp_nil_right _
theorem lcs_snoc (a b : Int) (x y : List Int) : lcs (x ++ [a]) (y ++ [b]) = if a = b then lcs x y + 1 else 0 := by
  unfold lcs
  simp only [List.reverse_append, List.reverse_cons, List.reverse_nil, List.nil_append, List.cons_append, lcp_cons]
theorem lcp_take : ∀ (x y : List Int), x.take (lcp x y) = y.take (lcp x y)
  | [], y => by simp [lcp_nil_left]
  | a :: x, [] => by simp [lcp_nil_right]
  | a :: x, b :: y => by
    rw [lcp_cons]
    by_cases h : a = b
    · rw [if_pos h, List.take_succ_cons, List.take_succ_cons, lcp_take x y, h]
    · rw [if_neg h, List.take_zero, List.take_zero]
theorem snoc_of_ne : ∀ (l : List Int), l ≠ [] → ∃ z r, l = z ++ [r]
  | [], h => absurd rfl h
  | [a], _ => ⟨[], a, rfl⟩
  | a :: b :: l, _ => by
    obtain ⟨z, r, e⟩ := snoc_of_ne (b :: l) (by simp)
    exact ⟨a :: z, r, by rw [e]; rfl⟩
theorem getD_last (A : List UInt8) (x : UInt8) (B : List UInt8) : (A ++ x :: B).getD A.length 0 = x := by
  rw [List.getD_eq_getElem?_getD, List.getElem?_append_right (Nat.le_refl _)]
  simp
theorem getD_at (A B : List UInt8) (i : Nat) (h : i < B.length) : (A ++ B).getD (A.length + i) 0 = B.getD i 0 := by
  rw [List.getD_eq_getElem?_getD, List.getD_eq_getElem?_getD, List.getElem?_append_right (by omega)]
  congr 2
  omega
theorem start_no (z : Int) (h0 : 128 ≤ z) (h1 : z < 192) : runeStartB z.toNat.toUInt8 = false := by
  have := toU8_toNat' z z.toNat (by omega) (by omega)
  unfold runeStartB
  rw [this]
  simp only [bne_eq_false_iff_eq]
  omega
theorem start_yes (z : Int) (h0 : 192 ≤ z) (h1 : z < 256) : runeStartB z.toNat.toUInt8 = true := by
  have := toU8_toNat' z z.toNat (by omega) (by omega)
  unfold runeStartB
  rw [this]
  simp only [bne_iff_ne, ne_eq]
  omega
set_option maxHeartbeats 4000000 in
/-- The last rune of a text is decoded as it is. -/
theorem decodeLast_enc (A : List UInt8) (r : Int) (h : okR r) : decodeLastL (A ++ encodeRune r) = (r.toNat, (encodeRune r).length) := by
  have hne : A ++ encodeRune r ≠ [] := by simp [encode_ne r]
  have hd : ∀ st, st = A.length → (A ++ encodeRune r).drop st = encodeRune r := by rintro st rfl; exact List.drop_left
  have hdec : decodeL (encodeRune r) = (r.toNat, (encodeRune r).length) := by
    have := decode_encode r h []
    rwa [List.append_nil] at this
  obtain ⟨h0, h1, h2⟩ := h
  by_cases c1 : r ≤ 127
  · have e : encodeRune r = [r.toNat.toUInt8] := by simp [encodeRune, encodeRuneZ_one h0 c1]
    have hb := toU8_toNat' r r.toNat (by omega) (by omega)
    unfold decodeLastL
    rw [if_neg hne, e, List.length_append, List.length_singleton, Nat.add_sub_cancel, getD_last, hb, if_pos (by omega)]
  have key : ∀ (L : List UInt8) (z : Int), encodeRune r = L ++ [z.toNat.toUInt8] → 128 ≤ z → z < 256 → lastStart (A ++ encodeRune r) = A.length → decodeLastL (A ++ encodeRune r) = (r.toNat, (encodeRune r).length) := by
    intro L z e hz0 hz1 hst
    have hb := toU8_toNat' z z.toNat (by omega) (by omega)
    have hg : ((A ++ encodeRune r).getD ((A ++ encodeRune r).length - 1) 0).toNat = z.toNat := by
      rw [e, ← List.append_assoc, List.length_append, List.length_singleton, Nat.add_sub_cancel, getD_last, hb]
    unfold decodeLastL
    rw [if_neg hne, if_neg (by rw [hg]; omega), hst, hd _ rfl, hdec, if_pos (by rw [List.length_append])]
  by_cases c2 : r ≤ 2047
  · have e : encodeRune r = [(192 + r / 64).toNat.toUInt8, (128 + r % 64).toNat.toUInt8] := by simp [encodeRune, encodeRuneZ_two (r := r) (by omega) c2]
    refine key [(192 + r / 64).toNat.toUInt8] (128 + r % 64) e (by omega) (by omega) ?_
    refine lastStart_at2 _ A.length (by rw [e]; simp) ?_
    have := getD_at A (encodeRune r) 0 (by rw [e]; simp)
    rw [Nat.add_zero] at this
    rw [this, e]
    exact start_yes _ (by omega) (by omega)
  by_cases c3 : r ≤ 65535
  · have e : encodeRune r = [(224 + r / 4096).toNat.toUInt8, (128 + r / 64 % 64).toNat.toUInt8, (128 + r % 64).toNat.toUInt8] := by simp [encodeRune, encodeRuneZ_three (r := r) (by omega)]
    refine key [(224 + r / 4096).toNat.toUInt8, (128 + r / 64 % 64).toNat.toUInt8] (128 + r % 64) e (by omega) (by omega) ?_
    have g0 := getD_at A (encodeRune r) 0 (by rw [e]; simp)
    have g1 := getD_at A (encodeRune r) 1 (by rw [e]; simp)
    rw [Nat.add_zero] at g0
    refine lastStart_at3 _ A.length (by rw [e]; simp) ?_ ?_
    · rw [g1, e]; exact start_no _ (by omega) (by omega)
    · rw [g0, e]; exact start_yes _ (by omega) (by omega)
  · have e : encodeRune r = [(240 + r / 262144).toNat.toUInt8, (128 + r / 4096 % 64).toNat.toUInt8, (128 + r / 64 % 64).toNat.toUInt8, (128 + r % 64).toNat.toUInt8] := by simp [encodeRune, encodeRuneZ_four (r := r) (by omega) h1]
    refine key [(240 + r / 262144).toNat.toUInt8, (128 + r / 4096 % 64).toNat.toUInt8, (128 + r / 64 % 64).toNat.toUInt8] (128 + r % 64) e (by omega) (by omega) ?_
    have g0 := getD_at A (encodeRune r) 0 (by rw [e]; simp)
    have g1 := getD_at A (encodeRune r) 1 (by rw [e]; simp)
    have g2 := getD_at A (encodeRune r) 2 (by rw [e]; simp)
    rw [Nat.add_zero] at g0
    refine lastStart_at4 _ A.length (by rw [e]; simp) ?_ ?_ ?_
    · rw [g2, e]; exact start_no _ (by omega) (by omega)
    · rw [g1, e]; exact start_no _ (by omega) (by omega)
    · rw [g0, e]; exact start_yes _ (by omega) (by omega)
theorem decodeLast_nil : decodeLastL [] = (65533, 0) := by decide
/-- What text.Between tells of two texts: places of the front that they share and of the end, and what stands between in the second one. -/
def betweenAns (s t : ByteArray) : Int × Int × Int × Int × ByteArray × Int :=
  let rs := runes s.data.toList
  let us := runes t.data.toList
  let n := lcp rs us
  let m := lcs (rs.drop n) (us.drop n)
  (((stepA (0, 0) (rs.take n)).1 : Int), ((stepA (0, 0) (rs.take n)).2 : Int), ((stepA (0, 0) (rs.take (rs.length - m))).1 : Int), ((stepA (0, 0) (rs.take (rs.length - m))).2 : Int), ofL (enc ((us.drop n).take ((us.drop n).length - m))), 0)
theorem betweenAns_of (s t : ByteArray) (pre x y suf : List Int) (hr : runes s.data.toList = pre ++ (x ++ suf)) (hu : runes t.data.toList = pre ++ (y ++ suf)) (h0 : lcp (x ++ suf) (y ++ suf) = 0) (h1 : lcs x y = 0) :
    betweenAns s t = (((stepA (0, 0) pre).1 : Int), ((stepA (0, 0) pre).2 : Int), ((stepA (0, 0) (pre ++ x)).1 : Int), ((stepA (0, 0) (pre ++ x)).2 : Int), ofL (enc y), 0) := by
  have hn : lcp (runes s.data.toList) (runes t.data.toList) = pre.length := by rw [hr, hu, lcp_append, h0, Nat.add_zero]
  have hm : lcs (x ++ suf) (y ++ suf) = suf.length := by rw [lcs_append, h1, Nat.add_zero]
  unfold betweenAns
  simp only [hn]
  simp only [hr, hu, List.drop_left, List.take_left, hm]
  have e1 : (pre ++ (x ++ suf)).take ((pre ++ (x ++ suf)).length - suf.length) = pre ++ x := by
    rw [← List.append_assoc, List.length_append, Nat.add_sub_cancel, List.take_left]
  have e2 : (y ++ suf).take ((y ++ suf).length - suf.length) = y := by rw [List.length_append, Nat.add_sub_cancel, List.take_left]
  rw [e1, e2]
end Go.Proofs.YtjffpcjbbehooaaDoor.G
end
section
set_option linter.unusedVariables false
namespace Go.Proofs.YtjffpcjbbehooaaDoor.G
open Go.RowKit Go.Proofs.YtjffpcjbbehooaaDoorW.PrintWords Go.Lib Go.Proofs.YtjffpcjbbehooaaDoor.PFn
theorem decStr (s : ByteArray) (w : World) (hT : T8 w) : Calls Tryd.prog 35 #[.string s] w fun e w' => e = .returned (.tuple #[.int .i32 (Lib.decodeGo s).1, .int .i64 (Lib.decodeGo s).2]) ∧ Below w.heap.size w w' :=
  Any.utf8_DecodeRuneInString Tryd.lays197 s w hT
theorem decLast (s : ByteArray) (w : World) (hs : s.size ≤ 9223372036854775807) (hT : T8 w) : Calls Tryd.prog 36 #[.string s] w fun e w' => e = .returned (.tuple #[.int .i32 (Lib.decodeLastL s.data.toList).1, .int .i64 (Lib.decodeLastL s.data.toList).2]) ∧ Below w.heap.size w w' :=
  Any.utf8_DecodeLastRuneInString Tryd.lays271 s w hs hT
theorem cellAt {w : World} {b T : Nat} {cells : Array Value} (h : w.heap[b]? = some (.cells cells T (0, 0))) (i : Nat) : w.cell? ⟨b, i, none⟩ = cells[i]? := by simp [World.cell?, h]
theorem freeAt {w : World} {b T : Nat} {cells : Array Value} (h : w.heap[b]? = some (.cells cells T (0, 0))) (i : Nat) : w.frozen? ⟨b, i, none⟩ = false := by simp [World.frozen?, h]
set_option maxHeartbeats 4000000 in
set_option maxRecDepth 100000 in
theorem GBetween.valid (a0 a1 : ByteArray) (w : World) (hT : T8 w) (hs : a0.size ≤ 1000000) (ht : a1.size ≤ 1000000) (hv : validD a0.data.toList = true) (hv1 : validD a1.data.toList = true) (r1 r2 r3 r4 : Int) (r5 : ByteArray) (h : betweenAns a0 a1 = (r1, r2, r3, r4, r5, 0)) :
    Calls Tryd.prog 22 #[.string a0, .string a1] w fun e w' => e = .returned (.tuple #[.agg #[.int .i64 r1, .int .i64 r2, .int .i64 r3, .int .i64 r4, .string r5], .int .i64 0]) ∧ Below w.heap.size w w' := by
  have HV := Aside0.mk (fun (W : World) (hb : Below w.heap.size w W) => GValidString.calls a0 true W (T8_below hT hb) (by unfold GValidString.f; rw [if_pos (by omega), hv]))
  have HV1 := Aside0.mk (fun (W : World) (hb : Below w.heap.size w W) => GValidString.calls a1 true W (T8_below hT hb) (by unfold GValidString.f; rw [if_pos (by omega), hv1]))
  have HT := Aside0.mk hT
  have HD := Aside0.mk (And.intro hv hv1)
  have H := Aside0.mk h
  clear hT hv hv1 h
  go_enter Tryd.func22, Tryd.ntmps22
  go_upto_region 1 with (fail)
  obtain ⟨W0, hW0⟩ : ∃ W0, w.alloc (.cells #[.int .i64 0, .int .i64 0, .int .i64 0, .int .i64 0, .string ⟨#[]⟩] 31) = W0 := ⟨_, rfl⟩
  have z0 : w.heap.size + 1 = W0.heap.size := by rw [← hW0]; simp
  have b0 : Below w.heap.size w W0 := by rw [← hW0]; exact below_alloc (Below.refl _ w) _
  have c0 : W0.heap[w.heap.size]? = some (.cells #[.int .i64 0, .int .i64 0, .int .i64 0, .int .i64 0, .string ⟨#[]⟩] 31 (0, 0)) := by rw [← hW0]; exact (MapKept.heap_alloc w _).1
  have HB0 := Aside0.mk b0
  have HC0 := Aside0.mk c0
  have HZ0 := Aside0.mk z0
  rw [hW0]
  clear hW0 b0 c0 z0
  go_upto_block 0 with (first | (go_at_call_of 25 (Value.string a0); refine (HV.out _ HB0.out).mono ?_; rintro e w1 ⟨rfl, hb⟩; have HB1 := Aside0.mk hb; clear hb) | (go_at_call_of 25 (Value.string a1); refine (HV1.out _ (HB0.out.trans (HB1.out.mono HB0.out.size))).mono ?_; rintro e w2 ⟨rfl, hb⟩; have HB2 := Aside0.mk (HB1.out.trans (hb.mono HB1.out.size)); clear hb HB1))
  go_cut [6] (fun v6 wc => ∃ pre x y : List Int, v6 = .int .i64 ((enc pre).length : Nat) ∧ Aside0 (Below W0.heap.size W0 wc) ∧ Aside0 (runes a0.data.toList = pre ++ x ∧ runes a1.data.toList = pre ++ y ∧ lcp x y = 0))
  case first =>
    go_wp2_with (fail)
    go_loopg [6] (a0.size + 1) (fun gk v6 wr => ∃ pre x y : List Int, v6 = .int .i64 ((enc pre).length : Nat) ∧ Aside0 (wr.heap[w2.heap.size]? = some (.stringIter a0 (enc pre).length) ∧ Below W0.heap.size W0 wr ∧ W0.heap.size ≤ w2.heap.size) ∧ Aside0 (a0.data.toList = enc (pre ++ x) ∧ allR (pre ++ x) ∧ a1.data.toList = enc (pre ++ y) ∧ allR (pre ++ y)) ∧ Aside0 ((enc x).length < gk))
    case atStart =>
      obtain ⟨e1, e2⟩ := text_enc _ HD.out.1
      obtain ⟨e3, e4⟩ := text_enc _ HD.out.2
      refine ⟨[], runes a0.data.toList, runes a1.data.toList, rfl, ⟨World.iter_heap _ _ _, HB2.out.alloc HB2.out.size _, HB2.out.size⟩, ⟨e1, e2, e3, e4⟩, ⟨?_⟩⟩
      rw [← e1, F.size_data]
      omega
    case round =>
      obtain ⟨pre, x, y, rfl, HW, HP, HG⟩ := hrel
      obtain ⟨h1, h2, h3⟩ := HW.out
      obtain ⟨e1, e2, e3, e4⟩ := HP.out
      have hsz := a0.data.size
      cases x with
      | nil =>
        have hend : ∀ ty, (Instr.next (.pointer (some ⟨w2.heap.size, 0, none⟩)) true ty).run Tryd.prog wr = .ok (.tuple #[.bool false]) wr := fun ty => Lib.run_next_end_at wr w2.heap.size a0 (enc pre).length ty h1 (by rw [F.size_data, e1, List.append_nil]; omega)
        clear h1 h2 h3 e1 e2 e3 e4
        go_wp2
        go_meet
        case rel => exact ⟨pre, [], y, rfl, ⟨HW.out.2.1⟩, ⟨by
          obtain ⟨e1, e2, e3, e4⟩ := HP.out
          rw [e1, e3, runes_enc' _ e2, runes_enc' _ e4]
          exact ⟨rfl, rfl, lcp_nil_left _⟩⟩⟩
      | cons r x =>
        have hr : okR r := (allR_cons.1 (allR_append.1 e2).2).1
        have hlen := encode_length r
        have hz0 := F.size_data a0
        have hz1 := F.size_data a1
        rw [e1, enc_append, enc_cons, List.length_append, List.length_append] at hz0
        rw [e3, enc_append, List.length_append] at hz1
        have hlt : (enc pre).length < a0.size := by omega
        have hp1 : (enc pre).length ≤ a1.size := by omega
        have hd : Utf8.decode a0 (enc pre).length = (r.toNat, (encodeRune r).length) := by
          rw [decode_drop, e1, enc_append, List.drop_left, enc_cons]
          exact decode_encode r hr _
        have hrr : ((r.toNat : Nat) : Int) = r := Int.toNat_of_nonneg hr.1
        have hnext : ∀ ty, (Instr.next (.pointer (some ⟨w2.heap.size, 0, none⟩)) true ty).run Tryd.prog wr = .ok (.tuple #[.bool true, .int .i64 ((enc pre).length : Nat), .int .i32 r]) (wr.iterAt w2.heap.size a0 ((enc pre).length + (encodeRune r).length)) := fun ty => by
          have := Lib.run_next_any_at (P := Tryd.prog) wr w2.heap.size a0 (enc pre).length ty h1 hlt
          rw [hd] at this
          simp only [hrr] at this
          exact this
        have hk : w2.heap.size < wr.heap.size := (Array.getElem?_eq_some_iff.1 h1).1
        have hi := Lib.iterAt_heap wr w2.heap.size a0 (enc pre).length ((enc pre).length + (encodeRune r).length) h1
        have hbi : Below W0.heap.size W0 (wr.iterAt w2.heap.size a0 ((enc pre).length + (encodeRune r).length)) := Lib.below_iterAt h2 h3 a0 _
        have hsl : (a1.extract (enc pre).length a1.size).data.toList = enc y := by
          rw [G.extract_data, List.take_of_length_le (by rw [← F.size_data]; exact Nat.le_refl _), e3, enc_append, List.drop_left]
        have HI := Aside0.mk hi
        have HBI := Aside0.mk hbi
        have HSL := Aside0.mk hsl
        generalize wr.iterAt w2.heap.size a0 ((enc pre).length + (encodeRune r).length) = W2 at *
        have HCALL := Aside0.mk (decStr (a1.extract (enc pre).length a1.size) W2 (T8_below HT.out (HB0.out.trans (hbi.mono HB0.out.size))))
        have HR := Aside0.mk hr
        have HX := Aside0.mk (show (enc pre).length + (encodeRune r).length ≤ 1000000 by omega)
        have HH3 := Aside0.mk h3
        have HLT := Aside0.mk hlen
        clear h1 h2 h3 e1 e2 e3 e4 hi hbi hsl hd hz0 hz1 hk hrr hr hlen
        cases y with
        | nil =>
          have hz : Lib.decodeGo (a1.extract (enc pre).length a1.size) = (65533, 0) := by
            have h0 : (a1.extract (enc pre).length a1.size).size = 0 := by rw [F.size_data, HSL.out]; rfl
            unfold Lib.decodeGo
            rw [if_pos h0]
          rw [hz] at HCALL
          clear hz
          go_wp2_with (go_at_call 35; refine HCALL.out.mono ?_; rintro e w4 ⟨rfl, hb⟩; have HB4 := Aside0.mk hb; clear hb)
          go_meet
          case rel => exact ⟨pre, r :: x, [], rfl, ⟨HBI.out.trans (HB4.out.mono HBI.out.size)⟩, ⟨by
            obtain ⟨e1, e2, e3, e4⟩ := HP.out
            rw [e1, e3, runes_enc' _ e2, runes_enc' _ e4]
            exact ⟨rfl, rfl, lcp_nil_right _⟩⟩⟩
        | cons u y =>
          have hu : okR u := (allR_cons.1 (allR_append.1 HP.out.2.2.2).2).1
          have hl := encode_length u
          have hz : Lib.decodeGo (a1.extract (enc pre).length a1.size) = (u.toNat, (encodeRune u).length) := by
            have h0 : ¬ (a1.extract (enc pre).length a1.size).size = 0 := by rw [F.size_data, HSL.out, enc_cons, List.length_append]; omega
            unfold Lib.decodeGo
            rw [if_neg h0, decode_drop, List.drop_zero, HSL.out, enc_cons]
            exact decode_encode u hu _
          rw [hz] at HCALL
          have huu : ((u.toNat : Nat) : Int) = u := Int.toNat_of_nonneg hu.1
          simp only [huu] at HCALL
          clear hz huu hu
          have hn0 : (((encodeRune u).length : Int) == 0) = false := by rw [beq_eq_false_iff_ne]; omega
          by_cases hur : u = r
          · subst hur
            have hb1 : (u != u) = false := by simp
            have hx := HX.out
            go_wp2_with (go_at_call 35; refine HCALL.out.mono ?_; rintro e w4 ⟨rfl, hb⟩; have HB4 := Aside0.mk hb; clear hb)
            obtain ⟨gk, rfl⟩ : ∃ g, gk = g + 1 := ⟨gk - 1, by have := HG.out; omega⟩
            go_roundg gk
            case measure => omega
            case rel =>
              refine ⟨pre ++ [u], x, y, by rw [enc_append, List.length_append, enc_cons, enc_nil, List.append_nil]; go_num, ⟨?_, HBI.out.trans (HB4.out.mono HBI.out.size), HH3.out⟩, ⟨?_⟩, ⟨?_⟩⟩
              · rw [enc_append, List.length_append, enc_cons, enc_nil, List.append_nil, HB4.out.block _ (Array.getElem?_eq_some_iff.1 HI.out).1]
                exact HI.out
              · simpa using HP.out
              · have := HG.out
                rw [enc_cons, List.length_append] at this
                omega
          · have hb1 : (u != r) = true := by simpa using hur
            have hur2 := Aside0.mk hur
            clear hur
            go_wp2_with (go_at_call 35; refine HCALL.out.mono ?_; rintro e w4 ⟨rfl, hb⟩; have HB4 := Aside0.mk hb; clear hb)
            go_meet
            case rel => exact ⟨pre, r :: x, u :: y, rfl, ⟨HBI.out.trans (HB4.out.mono HBI.out.size)⟩, ⟨by
              obtain ⟨e1, e2, e3, e4⟩ := HP.out
              rw [e1, e3, runes_enc' _ e2, runes_enc' _ e4, lcp_cons, if_neg (fun z => hur2.out z.symm)]
              exact ⟨rfl, rfl, rfl⟩⟩⟩
  case rest =>
    obtain ⟨pre, x, y, rfl, HB, HP⟩ := hcut
    obtain ⟨f1, f2⟩ := text_enc _ HD.out.1
    obtain ⟨f3, f4⟩ := text_enc _ HD.out.2
    rw [HP.out.1] at f1 f2
    rw [HP.out.2.1] at f3 f4
    have hz0 := F.size_data a0
    have hz1 := F.size_data a1
    rw [f1, enc_append, List.length_append] at hz0
    rw [f3, enc_append, List.length_append] at hz1
    have hp0 : (enc pre).length ≤ a0.size := by omega
    have hp1 : (enc pre).length ≤ a1.size := by omega
    have HA := Aside0.mk (show (a0.extract (enc pre).length a0.size).data.toList = enc x by rw [G.extract_data, List.take_of_length_le (by rw [← F.size_data]; exact Nat.le_refl _), f1, enc_append, List.drop_left])
    have HA1 := Aside0.mk (show (a1.extract (enc pre).length a1.size).data.toList = enc y by rw [G.extract_data, List.take_of_length_le (by rw [← F.size_data]; exact Nat.le_refl _), f3, enc_append, List.drop_left])
    have HF := Aside0.mk (And.intro f1 (And.intro f2 (And.intro f3 f4)))
    have HS := Aside0.mk (And.intro hs ht)
    clear f1 f2 f3 f4 hz0 hz1 hs ht
    go_wp2_with (fail)
    go_quiet (fail)
    have hA := HA.out
    have hA1 := HA1.out
    generalize a0.extract (enc pre).length a0.size = A at *
    generalize a1.extract (enc pre).length a1.size = B at *
    have HB5 := Aside0.mk (pw_below_drewN HB.out nq)
    generalize wc.drewN nq = w5 at *
    have HAB := Aside0.mk (And.intro hA hA1)
    clear hA hA1 HA HA1
    go_upto_block 2 with (fail)
    go_cut [11, 12] (fun v11 v12 wd => ∃ (C D : ByteArray) (xx yy suf : List Int), v11 = .string C ∧ v12 = .string D ∧ Aside0 (C.data.toList = enc xx ∧ D.data.toList = enc yy ∧ x = xx ++ suf ∧ y = yy ++ suf ∧ lcs xx yy = 0) ∧ Aside0 (Below W0.heap.size W0 wd))
    case first =>
      go_wp2_with (fail)
      go_loopg [11, 12] (a0.size + 1) (fun gk v11 v12 wr => ∃ (C D : ByteArray) (xx yy suf : List Int), v11 = .string C ∧ v12 = .string D ∧ Aside0 (C.data.toList = enc xx ∧ D.data.toList = enc yy ∧ x = xx ++ suf ∧ y = yy ++ suf) ∧ Aside0 (Below W0.heap.size W0 wr) ∧ Aside0 ((enc xx).length < gk))
      case atStart =>
        refine ⟨A, B, x, y, [], rfl, rfl, ⟨HAB.out.1, HAB.out.2, by simp, by simp⟩, HB5, ⟨?_⟩⟩
        have := F.size_data a0
        rw [HF.out.1, enc_append, List.length_append] at this
        omega
      case round =>
        obtain ⟨C, D, xx, yy, suf, rfl, rfl, HQ, HW, HG⟩ := hrel
        have hzC : C.size ≤ a0.size := by
          have h1 := F.size_data C
          have h2 := F.size_data a0
          rw [HQ.out.1] at h1
          rw [HF.out.1, HQ.out.2.2.1, enc_append, enc_append, List.length_append, List.length_append] at h2
          omega
        have hzD : D.size ≤ a1.size := by
          have h1 := F.size_data D
          have h2 := F.size_data a1
          rw [HQ.out.2.1] at h1
          rw [HF.out.2.2.1, HQ.out.2.2.2, enc_append, enc_append, List.length_append, List.length_append] at h2
          omega
        have hzC2 : C.size ≤ 1000000 := Nat.le_trans hzC HS.out.1
        have hzD2 : D.size ≤ 1000000 := Nat.le_trans hzD HS.out.2
        clear hzC hzD
        have HCALL := Aside0.mk (fun (W : World) (hb : Below W0.heap.size W0 W) => decLast C W (by omega) (T8_below HT.out (HB0.out.trans (hb.mono HB0.out.size))))
        have HCALL1 := Aside0.mk (fun (W : World) (hb : Below W0.heap.size W0 W) => decLast D W (by omega) (T8_below HT.out (HB0.out.trans (hb.mono HB0.out.size))))
        rw [HQ.out.1] at HCALL
        rw [HQ.out.2.1] at HCALL1
        by_cases hx : xx = []
        · subst hx
          rw [enc_nil, decodeLast_nil] at HCALL
          generalize decodeLastL (enc yy) = dl at *
          obtain ⟨d1, d2⟩ := dl
          go_wp2_with (first | (go_at_call_of 36 (Value.string C); refine (HCALL.out _ HW.out).mono ?_; rintro e w6 ⟨rfl, hb⟩; have HB6 := Aside0.mk (HW.out.trans (hb.mono HW.out.size)); clear hb) | (go_at_call_of 36 (Value.string D); refine (HCALL1.out _ HB6.out).mono ?_; rintro e w7 ⟨rfl, hb⟩; have HB7 := Aside0.mk (HB6.out.trans (hb.mono HB6.out.size)); clear hb))
          go_meet
          case rel => exact ⟨C, D, [], yy, suf, rfl, rfl, ⟨HQ.out.1, HQ.out.2.1, HQ.out.2.2.1, HQ.out.2.2.2, lcs_nil_left _⟩, HB7⟩
        obtain ⟨zx, r, rfl⟩ := snoc_of_ne xx hx
        clear hx
        have hrr : okR r := by
          have h := HF.out.2.1
          rw [HQ.out.2.2.1] at h
          exact (allR_cons.1 (allR_append.1 (allR_append.1 (allR_append.1 h).2).1).2).1
        have hl := encode_length r
        have hdl : decodeLastL (enc (zx ++ [r])) = (r.toNat, (encodeRune r).length) := by
          rw [enc_append, enc_cons, enc_nil, List.append_nil]
          exact decodeLast_enc _ r hrr
        rw [hdl] at HCALL
        have hr2 : ((r.toNat : Nat) : Int) = r := Int.toNat_of_nonneg hrr.1
        simp only [hr2] at HCALL
        clear hdl hr2 hrr
        have hn0 : (((encodeRune r).length : Int) == 0) = false := by rw [beq_eq_false_iff_ne]; omega
        by_cases hy : yy = []
        · subst hy
          rw [enc_nil, decodeLast_nil] at HCALL1
          go_wp2_with (first | (go_at_call_of 36 (Value.string C); refine (HCALL.out _ HW.out).mono ?_; rintro e w6 ⟨rfl, hb⟩; have HB6 := Aside0.mk (HW.out.trans (hb.mono HW.out.size)); clear hb) | (go_at_call_of 36 (Value.string D); refine (HCALL1.out _ HB6.out).mono ?_; rintro e w7 ⟨rfl, hb⟩; have HB7 := Aside0.mk (HB6.out.trans (hb.mono HB6.out.size)); clear hb))
          go_meet
          case rel => exact ⟨C, D, zx ++ [r], [], suf, rfl, rfl, ⟨HQ.out.1, HQ.out.2.1, HQ.out.2.2.1, HQ.out.2.2.2, lcs_nil_right _⟩, HB7⟩
        obtain ⟨zy, u, rfl⟩ := snoc_of_ne yy hy
        clear hy
        have huu : okR u := by
          have h := HF.out.2.2.2
          rw [HQ.out.2.2.2] at h
          exact (allR_cons.1 (allR_append.1 (allR_append.1 (allR_append.1 h).2).1).2).1
        have hl1 := encode_length u
        have hdl : decodeLastL (enc (zy ++ [u])) = (u.toNat, (encodeRune u).length) := by
          rw [enc_append, enc_cons, enc_nil, List.append_nil]
          exact decodeLast_enc _ u huu
        rw [hdl] at HCALL1
        have hr2 : ((u.toNat : Nat) : Int) = u := Int.toNat_of_nonneg huu.1
        simp only [hr2] at HCALL1
        clear hdl hr2 huu
        have hn1 : (((encodeRune u).length : Int) == 0) = false := by rw [beq_eq_false_iff_ne]; omega
        by_cases hru : r = u
        · subst hru
          have hb1 : (r != r) = false := by simp
          have hC1 : (encodeRune r).length ≤ C.size := by rw [F.size_data, HQ.out.1, enc_append, List.length_append, enc_cons, enc_nil, List.append_nil]; omega
          have hD1 : (encodeRune r).length ≤ D.size := by rw [F.size_data, HQ.out.2.1, enc_append, List.length_append, enc_cons, enc_nil, List.append_nil]; omega
          have HCD := Aside0.mk (show (C.extract 0 (C.size - (encodeRune r).length)).data.toList = enc zx by
            rw [G.extract_data, List.drop_zero, HQ.out.1, F.size_data, HQ.out.1, enc_append, enc_cons, enc_nil, List.append_nil, List.length_append, Nat.add_sub_cancel, List.take_left])
          have HDD := Aside0.mk (show (D.extract 0 (D.size - (encodeRune r).length)).data.toList = enc zy by
            rw [G.extract_data, List.drop_zero, HQ.out.2.1, F.size_data, HQ.out.2.1, enc_append, enc_cons, enc_nil, List.append_nil, List.length_append, Nat.add_sub_cancel, List.take_left])
          go_wp2_with (first | (go_at_call_of 36 (Value.string C); refine (HCALL.out _ HW.out).mono ?_; rintro e w6 ⟨rfl, hb⟩; have HB6 := Aside0.mk (HW.out.trans (hb.mono HW.out.size)); clear hb) | (go_at_call_of 36 (Value.string D); refine (HCALL1.out _ HB6.out).mono ?_; rintro e w7 ⟨rfl, hb⟩; have HB7 := Aside0.mk (HB6.out.trans (hb.mono HB6.out.size)); clear hb))
          have i1 : IntKind.i64.wrap ((C.size : Int) - ((encodeRune r).length : Int)) = (C.size : Int) - ((encodeRune r).length : Int) := IntWalk.i64_in _ (by omega)
          have i2 : 0 ≤ (C.size : Int) - ((encodeRune r).length : Int) := by omega
          have i3 : ((C.size : Int) - ((encodeRune r).length : Int)).toNat = C.size - (encodeRune r).length := by omega
          have i4 : (C.size : Int) - ((encodeRune r).length : Int) ≤ (C.size : Int) := by omega
          have j1 : IntKind.i64.wrap ((D.size : Int) - ((encodeRune r).length : Int)) = (D.size : Int) - ((encodeRune r).length : Int) := IntWalk.i64_in _ (by omega)
          have j2 : 0 ≤ (D.size : Int) - ((encodeRune r).length : Int) := by omega
          have j3 : ((D.size : Int) - ((encodeRune r).length : Int)).toNat = D.size - (encodeRune r).length := by omega
          have j4 : (D.size : Int) - ((encodeRune r).length : Int) ≤ (D.size : Int) := by omega
          go_quiet (fail)
          clear i1 i2 i3 i4 j1 j2 j3 j4
          go_wp2
          obtain ⟨gk, rfl⟩ : ∃ g, gk = g + 1 := ⟨gk - 1, by have := HG.out; omega⟩
          go_roundg gk
          case measure => omega
          case rel =>
            refine ⟨_, _, zx, zy, r :: suf, rfl, rfl, ⟨HCD.out, HDD.out, ?_, ?_⟩, ⟨pw_below_drewN HB7.out _⟩, ⟨?_⟩⟩
            · rw [HQ.out.2.2.1]; simp
            · rw [HQ.out.2.2.2]; simp
            · have := HG.out
              rw [enc_append, List.length_append, enc_cons, enc_nil, List.append_nil] at this
              omega
        · have hb1 : (r != u) = true := by simpa using hru
          have hru2 := Aside0.mk hru
          clear hru
          go_wp2_with (first | (go_at_call_of 36 (Value.string C); refine (HCALL.out _ HW.out).mono ?_; rintro e w6 ⟨rfl, hb⟩; have HB6 := Aside0.mk (HW.out.trans (hb.mono HW.out.size)); clear hb) | (go_at_call_of 36 (Value.string D); refine (HCALL1.out _ HB6.out).mono ?_; rintro e w7 ⟨rfl, hb⟩; have HB7 := Aside0.mk (HB6.out.trans (hb.mono HB6.out.size)); clear hb))
          go_meet
          case rel => exact ⟨C, D, zx ++ [r], zy ++ [u], suf, rfl, rfl, ⟨HQ.out.1, HQ.out.2.1, HQ.out.2.2.1, HQ.out.2.2.2, by rw [lcs_snoc, if_neg hru2.out]⟩, HB7⟩
    case rest =>
      obtain ⟨C, D, xx, yy, suf, rfl, rfl, HQ, HW⟩ := hcut
      obtain ⟨q1, q2, q3, q4, q5⟩ := HQ.out
      have hb := betweenAns_of a0 a1 pre xx yy suf (by rw [HP.out.1, q3]) (by rw [HP.out.2.1, q4]) (by rw [← q3, ← q4]; exact HP.out.2.2) q5
      rw [H.out] at hb
      simp only [Prod.mk.injEq, and_true] at hb
      obtain ⟨rfl, rfl, rfl, rfl, rfl⟩ := hb
      have hD : ofL (enc yy) = D := by rw [← q2]; rfl
      have HDD := Aside0.mk hD
      have e0 := HF.out.1
      have e1 := HF.out.2.1
      rw [q3] at e0 e1
      have hz := F.size_data a0
      rw [e0, enc_append, enc_append, List.length_append, List.length_append] at hz
      have hCz : C.size = (enc xx).length := by rw [F.size_data, q1]
      have P1 := F.place_front a0 pre (xx ++ suf) e1 e0 (by have := HS.out.1; omega) (a0.size + 2) (by omega)
      have P2 := F.place_front a0 (pre ++ xx) suf (by rw [List.append_assoc]; exact e1) (by rw [List.append_assoc]; exact e0) (by have := HS.out.1; omega) (a0.size + 2) (by omega)
      rw [show ((enc (pre ++ xx)).length : Int) = ((enc pre).length : Int) + (C.size : Int) by rw [hCz, enc_append, List.length_append]; rfl] at P2
      have hsum : (enc pre).length + C.size ≤ 1000000 := by have := HS.out.1; omega
      obtain ⟨s1, hs1⟩ : ∃ s, (((stepA (0, 0) pre).1 : Nat) : Int) = s := ⟨_, rfl⟩
      rw [hs1] at P1
      have HS1 := Aside0.mk hs1
      clear hs1
      obtain ⟨s2, hs2⟩ : ∃ s, (((stepA (0, 0) pre).2 : Nat) : Int) = s := ⟨_, rfl⟩
      rw [hs2] at P1
      have HS2 := Aside0.mk hs2
      clear hs2
      obtain ⟨s3, hs3⟩ : ∃ s, (((stepA (0, 0) (pre ++ xx)).1 : Nat) : Int) = s := ⟨_, rfl⟩
      rw [hs3] at P2
      have HS3 := Aside0.mk hs3
      clear hs3
      obtain ⟨s4, hs4⟩ : ∃ s, (((stepA (0, 0) (pre ++ xx)).2 : Nat) : Int) = s := ⟨_, rfl⟩
      rw [hs4] at P2
      have HS4 := Aside0.mk hs4
      clear hs4
      have HP1 := Aside0.mk P1
      have HP2 := Aside0.mk P2
      have hn0 : Below w.heap.size w wc := HB0.out.trans (HW.out.mono HB0.out.size)
      have hr0 : wc.heap[w.heap.size]? = some (.cells #[.int .i64 0, .int .i64 0, .int .i64 0, .int .i64 0, .string ⟨#[]⟩] 31 (0, 0)) := (HW.out.block _ (by have := HZ0.out; omega)).trans HC0.out
      have hlt : w.heap.size < wc.heap.size := (Array.getElem?_eq_some_iff.1 hr0).1
      have HN0 := Aside0.mk hn0
      have HR0 := Aside0.mk hr0
      have HLT := Aside0.mk hlt
      clear q1 q2 q3 q4 q5 hD e0 e1 hz hCz P1 P2 HQ HP HF H hn0 hr0 hlt HAB
      go_wp2_with (fail)
      refine (text_Place.calls (a0.size + 2) a0 _ s1 s2 0 _ (T8_below HT.out (below_alloc HN0.out _)) HP1.out).mono ?_
      rintro e w8 ⟨rfl, hb8⟩
      have hx8 : w8.heap[wc.heap.size]? = some (.cells #[.int .i64 0, .int .i64 0, .int .i64 0, .int .i64 0, .string D] 31 (0, 0)) := (hb8.block _ (by simp)).trans (MapKept.heap_alloc wc _).1
      have hy8 := (hb8.block w.heap.size (by have := HLT.out; simp; omega)).trans ((Below.heap_alloc wc _ _ HLT.out).trans HR0.out)
      have hn8 : Below w.heap.size w w8 := below_step (below_alloc HN0.out _) hb8
      have g0 := cellAt hx8 0
      have g1 := cellAt hx8 1
      have f0 := freeAt hx8 0
      have f1 := freeAt hx8 1
      simp only [List.getElem?_toArray, List.getElem?_cons_zero, List.getElem?_cons_succ] at g0 g1
      have HX8 := Aside0.mk hx8
      have HY8 := Aside0.mk hy8
      have HN8 := Aside0.mk hn8
      clear hx8 hy8 hn8 hb8
      go_wp2_with (fail)
      have hx9 := heap_setCell_same _ _ 1 _ _ (.int .i64 s2) (heap_setCell_same _ _ 0 _ _ (.int .i64 s1) HX8.out)
      have hy9 := (heap_setCell_other (w8.setCell ⟨wc.heap.size, 0, none⟩ (.int .i64 s1)) ⟨wc.heap.size, 1, none⟩ w.heap.size (.int .i64 s2) (by have := HLT.out; simp; omega)).trans ((heap_setCell_other w8 ⟨wc.heap.size, 0, none⟩ w.heap.size (.int .i64 s1) (by have := HLT.out; simp; omega)).trans HY8.out)
      have hn9 : Below w.heap.size w ((w8.setCell ⟨wc.heap.size, 0, none⟩ (.int .i64 s1)).setCell ⟨wc.heap.size, 1, none⟩ (.int .i64 s2)) := (HN8.out.setCell (p := ⟨wc.heap.size, 0, none⟩) (by have := HLT.out; simp; omega) _).setCell (p := ⟨wc.heap.size, 1, none⟩) (by have := HLT.out; simp; omega) _
      simp only [List.setIfInBounds_toArray, List.set_cons_zero, List.set_cons_succ] at hx9
      generalize (w8.setCell ⟨wc.heap.size, 0, none⟩ (.int .i64 s1)).setCell ⟨wc.heap.size, 1, none⟩ (.int .i64 s2) = w9 at *
      refine (text_Place.calls (a0.size + 2) a0 _ s3 s4 0 _ (T8_below HT.out hn9) HP2.out).mono ?_
      rintro e w10 ⟨rfl, hb10⟩
      have hx10 := (hb10.block wc.heap.size (Array.getElem?_eq_some_iff.1 hx9).1).trans hx9
      have hy10 := (hb10.block w.heap.size (Array.getElem?_eq_some_iff.1 hy9).1).trans hy9
      have hn10 : Below w.heap.size w w10 := below_step hn9 hb10
      clear g0 g1 f0 f1 hb10 hx9 hy9 hn9
      have g0 := cellAt hx10 0
      have g1 := cellAt hx10 1
      have g2 := cellAt hx10 2
      have g3 := cellAt hx10 3
      have g4 := cellAt hx10 4
      have f2 := freeAt hx10 2
      have f3 := freeAt hx10 3
      simp only [List.getElem?_toArray, List.getElem?_cons_zero, List.getElem?_cons_succ] at g0 g1 g2 g3 g4
      have k0 := cellAt hy10 0
      have k1 := cellAt hy10 1
      have k2 := cellAt hy10 2
      have k3 := cellAt hy10 3
      have k4 := cellAt hy10 4
      have m0 := freeAt hy10 0
      have m1 := freeAt hy10 1
      have m2 := freeAt hy10 2
      have m3 := freeAt hy10 3
      have m4 := freeAt hy10 4
      simp only [List.getElem?_toArray, List.getElem?_cons_zero, List.getElem?_cons_succ] at k0 k1 k2 k3 k4
      have HX10 := Aside0.mk hx10
      have HY10 := Aside0.mk hy10
      have HN10 := Aside0.mk hn10
      have hne : ¬ wc.heap.size = w.heap.size := by have := HLT.out; omega
      have hne2 : ¬ w.heap.size = wc.heap.size := by have := HLT.out; omega
      have hu := Tryd.underlying31
      clear hx10 hy10 hn10
      go_wp2
      rw [HS1.out, HS2.out, HS3.out, HS4.out, HDD.out]
      have z1 := (heap_setCell_other (w10.setCell ⟨wc.heap.size, 2, none⟩ (.int .i64 s3)) ⟨wc.heap.size, 3, none⟩ w.heap.size (.int .i64 s4) hne2).trans ((heap_setCell_other w10 ⟨wc.heap.size, 2, none⟩ w.heap.size (.int .i64 s3) hne2).trans HY10.out)
      have n1 : Below w.heap.size w ((w10.setCell ⟨wc.heap.size, 2, none⟩ (.int .i64 s3)).setCell ⟨wc.heap.size, 3, none⟩ (.int .i64 s4)) := (HN10.out.setCell (p := ⟨wc.heap.size, 2, none⟩) (by have := HLT.out; simp; omega) _).setCell (p := ⟨wc.heap.size, 3, none⟩) (by have := HLT.out; simp; omega) _
      have z6 := heap_setCell_same _ _ 4 _ _ (.string D) (heap_setCell_same _ _ 3 _ _ (.int .i64 s4) (heap_setCell_same _ _ 2 _ _ (.int .i64 s3) (heap_setCell_same _ _ 1 _ _ (.int .i64 s2) (heap_setCell_same _ _ 0 _ _ (.int .i64 s1) z1))))
      have n6 := ((((n1.setCell (p := ⟨w.heap.size, 0, none⟩) (Nat.le_refl _) (.int .i64 s1)).setCell (p := ⟨w.heap.size, 1, none⟩) (Nat.le_refl _) (.int .i64 s2)).setCell (p := ⟨w.heap.size, 2, none⟩) (Nat.le_refl _) (.int .i64 s3)).setCell (p := ⟨w.heap.size, 3, none⟩) (Nat.le_refl _) (.int .i64 s4)).setCell (p := ⟨w.heap.size, 4, none⟩) (Nat.le_refl _) (.string D)
      clear z1 n1 g0 g1 g2 g3 g4 f2 f3 k0 k1 k2 k3 k4 m0 m1 m2 m3 m4
      simp only [List.setIfInBounds_toArray, List.set_cons_zero, List.set_cons_succ] at z6
      generalize World.setCell _ ⟨w.heap.size, 4, none⟩ (.string D) = Wf at *
      have k0 := cellAt z6 0
      have k1 := cellAt z6 1
      have k2 := cellAt z6 2
      have k3 := cellAt z6 3
      have k4 := cellAt z6 4
      simp only [List.getElem?_toArray, List.getElem?_cons_zero, List.getElem?_cons_succ] at k0 k1 k2 k3 k4
      exact bodyPost_ret (v := .tuple #[.agg #[.int .i64 s1, .int .i64 s2, .int .i64 s3, .int .i64 s4, .string D], .int .i64 0]) (by simp [results, Tryd.f22, go_sem, k0, k1, k2, k3, k4]) rfl ⟨rfl, n6⟩
set_option maxHeartbeats 4000000 in
set_option maxRecDepth 100000 in
theorem GBetween.invalid (a0 a1 : ByteArray) (w : World) (hT : T8 w) (hs : a0.size ≤ 1000000) (ht : a1.size ≤ 1000000) (hv : (validD a0.data.toList && validD a1.data.toList) = false) :
    Calls Tryd.prog 22 #[.string a0, .string a1] w fun e w' => e = .returned (.tuple #[.agg #[.int .i64 0, .int .i64 0, .int .i64 0, .int .i64 0, .string ⟨#[]⟩], .int .i64 40]) ∧ Below w.heap.size w w' := by
  have HV := Aside0.mk (fun (W : World) (hb : Below w.heap.size w W) => GValidString.calls a0 (validD a0.data.toList) W (T8_below hT hb) (by unfold GValidString.f; rw [if_pos (by omega)]))
  have HV1 := Aside0.mk (fun (W : World) (hb : Below w.heap.size w W) => GValidString.calls a1 (validD a1.data.toList) W (T8_below hT hb) (by unfold GValidString.f; rw [if_pos (by omega)]))
  clear hT
  obtain ⟨W0, hW0⟩ : ∃ W0, w.alloc (.cells #[.int .i64 0, .int .i64 0, .int .i64 0, .int .i64 0, .string ⟨#[]⟩] 31) = W0 := ⟨_, rfl⟩
  have b0 : Below w.heap.size w W0 := by rw [← hW0]; exact below_alloc (Below.refl _ w) _
  have c0 : W0.heap[w.heap.size]? = some (.cells #[.int .i64 0, .int .i64 0, .int .i64 0, .int .i64 0, .string ⟨#[]⟩] 31 (0, 0)) := by rw [← hW0]; exact (MapKept.heap_alloc w _).1
  have fin : ∀ (w1 : World), Below W0.heap.size W0 w1 → (w1.heap[w.heap.size]? = some (.cells #[.int .i64 0, .int .i64 0, .int .i64 0, .int .i64 0, .string ⟨#[]⟩] 31 (0, 0)) ∧ Below w.heap.size w w1) := fun w1 hb => ⟨(hb.block _ (Array.getElem?_eq_some_iff.1 c0).1).trans c0, b0.trans (hb.mono b0.size)⟩
  have HFIN := Aside0.mk fin
  have HB0 := Aside0.mk b0
  clear b0 c0 fin
  generalize hq0 : validD a0.data.toList = q0 at *
  generalize hq1 : validD a1.data.toList = q1 at *
  clear hq0 hq1
  have done : ∀ (w1 : World), Below W0.heap.size W0 w1 → ∃ w2, w2 = ((((w1.setCell ⟨w.heap.size, 0, none⟩ (.int .i64 0)).setCell ⟨w.heap.size, 1, none⟩ (.int .i64 0)).setCell ⟨w.heap.size, 2, none⟩ (.int .i64 0)).setCell ⟨w.heap.size, 3, none⟩ (.int .i64 0)).setCell ⟨w.heap.size, 4, none⟩ (.string ⟨#[]⟩) ∧ w2.heap[w.heap.size]? = some (.cells #[.int .i64 0, .int .i64 0, .int .i64 0, .int .i64 0, .string ⟨#[]⟩] 31 (0, 0)) ∧ Below w.heap.size w w2 := by
    intro w1 hb
    obtain ⟨z1, n1⟩ := HFIN.out w1 hb
    have z6 := heap_setCell_same _ _ 4 _ _ (.string ⟨#[]⟩) (heap_setCell_same _ _ 3 _ _ (.int .i64 0) (heap_setCell_same _ _ 2 _ _ (.int .i64 0) (heap_setCell_same _ _ 1 _ _ (.int .i64 0) (heap_setCell_same _ _ 0 _ _ (.int .i64 0) z1))))
    simp only [List.setIfInBounds_toArray, List.set_cons_zero, List.set_cons_succ] at z6
    exact ⟨_, rfl, z6, ((((n1.setCell (p := ⟨w.heap.size, 0, none⟩) (Nat.le_refl _) (.int .i64 0)).setCell (p := ⟨w.heap.size, 1, none⟩) (Nat.le_refl _) (.int .i64 0)).setCell (p := ⟨w.heap.size, 2, none⟩) (Nat.le_refl _) (.int .i64 0)).setCell (p := ⟨w.heap.size, 3, none⟩) (Nat.le_refl _) (.int .i64 0)).setCell (p := ⟨w.heap.size, 4, none⟩) (Nat.le_refl _) (.string ⟨#[]⟩)⟩
  have HDONE := Aside0.mk done
  clear done
  have hu := Tryd.underlying31
  have cells : ∀ (w1 : World), Below W0.heap.size W0 w1 → (w1.cell? ⟨w.heap.size, 0, none⟩ = some (.int .i64 0) ∧ w1.cell? ⟨w.heap.size, 1, none⟩ = some (.int .i64 0) ∧ w1.cell? ⟨w.heap.size, 2, none⟩ = some (.int .i64 0) ∧ w1.cell? ⟨w.heap.size, 3, none⟩ = some (.int .i64 0) ∧ w1.cell? ⟨w.heap.size, 4, none⟩ = some (.string ⟨#[]⟩)) ∧ ∀ i, w1.frozen? ⟨w.heap.size, i, none⟩ = false := by
    intro w1 hb
    obtain ⟨z1, n1⟩ := HFIN.out w1 hb
    exact ⟨⟨cellAt z1 0, cellAt z1 1, cellAt z1 2, cellAt z1 3, cellAt z1 4⟩, fun i => freeAt z1 i⟩
  have HCELLS := Aside0.mk cells
  clear cells
  cases q0 with
  | false =>
    clear hv
    go_enter Tryd.func22, Tryd.ntmps22
    go_upto_region 1 with (fail)
    clear hW0
    go_wp2_with (go_at_call_of 25 (Value.string a0); refine (HV.out _ HB0.out).mono ?_; rintro e w1 ⟨rfl, hb⟩; obtain ⟨⟨k0, k1, k2, k3, k4⟩, m⟩ := HCELLS.out _ hb; have HB1 := Aside0.mk hb; clear hb)
    obtain ⟨w2, hw2, z, n⟩ := HDONE.out w1 HB1.out
    rw [← hw2]
    clear hw2 k0 k1 k2 k3 k4 m
    have k0 := cellAt z 0
    have k1 := cellAt z 1
    have k2 := cellAt z 2
    have k3 := cellAt z 3
    have k4 := cellAt z 4
    simp only [List.getElem?_toArray, List.getElem?_cons_zero, List.getElem?_cons_succ] at k0 k1 k2 k3 k4
    exact bodyPost_ret (v := .tuple #[.agg #[.int .i64 0, .int .i64 0, .int .i64 0, .int .i64 0, .string ⟨#[]⟩], .int .i64 40]) (by simp [results, Tryd.f22, go_sem, k0, k1, k2, k3, k4]) rfl ⟨rfl, n⟩
  | true =>
    rw [Bool.true_and] at hv
    subst hv
    go_enter Tryd.func22, Tryd.ntmps22
    go_upto_region 1 with (fail)
    clear hW0
    go_wp2_with (first | (go_at_call_of 25 (Value.string a0); refine (HV.out _ HB0.out).mono ?_; rintro e w1 ⟨rfl, hb⟩; have HB1 := Aside0.mk hb; clear hb) | (go_at_call_of 25 (Value.string a1); refine (HV1.out _ (HB0.out.trans (HB1.out.mono HB0.out.size))).mono ?_; rintro e w2 ⟨rfl, hb⟩; have HB2 := Aside0.mk (HB1.out.trans (hb.mono HB1.out.size)); obtain ⟨⟨k0, k1, k2, k3, k4⟩, m⟩ := HCELLS.out _ HB2.out; clear hb HB1))
    obtain ⟨w3, hw3, z, n⟩ := HDONE.out w2 HB2.out
    rw [← hw3]
    clear hw3 k0 k1 k2 k3 k4 m
    have k0 := cellAt z 0
    have k1 := cellAt z 1
    have k2 := cellAt z 2
    have k3 := cellAt z 3
    have k4 := cellAt z 4
    simp only [List.getElem?_toArray, List.getElem?_cons_zero, List.getElem?_cons_succ] at k0 k1 k2 k3 k4
    exact bodyPost_ret (v := .tuple #[.agg #[.int .i64 0, .int .i64 0, .int .i64 0, .int .i64 0, .string ⟨#[]⟩], .int .i64 40]) (by simp [results, Tryd.f22, go_sem, k0, k1, k2, k3, k4]) rfl ⟨rfl, n⟩
def GBetween.f (a0 a1 : ByteArray) : Option (Int × Int × Int × Int × ByteArray × Int) := if a0.size ≤ 1000000 ∧ a1.size ≤ 1000000 then some (if (validD a0.data.toList && validD a1.data.toList) = true then betweenAns a0 a1 else (0, 0, 0, 0, ⟨#[]⟩, 40)) else none
theorem betweenAns_err (a0 a1 : ByteArray) : (betweenAns a0 a1).2.2.2.2.2 = 0 := rfl
theorem GBetween.calls (a0 a1 : ByteArray) (r1 r2 r3 r4 : Int) (r5 : ByteArray) (r6 : Int) (w : World) (hT : T8 w) (h : GBetween.f a0 a1 = some (r1, r2, r3, r4, r5, r6)) :
    Calls Tryd.prog 22 #[.string a0, .string a1] w fun e w' => e = .returned (.tuple #[.agg #[.int .i64 r1, .int .i64 r2, .int .i64 r3, .int .i64 r4, .string r5], .int .i64 r6]) ∧ Below w.heap.size w w' := by
  unfold GBetween.f at h
  split at h
  case isFalse => cases h
  case isTrue hs =>
    by_cases hv : (validD a0.data.toList && validD a1.data.toList) = true
    · rw [if_pos hv, Option.some.injEq] at h
      have h6 := betweenAns_err a0 a1
      rw [h] at h6
      simp only at h6
      subst h6
      rw [Bool.and_eq_true] at hv
      exact GBetween.valid a0 a1 w hT hs.1 hs.2 hv.1 hv.2 r1 r2 r3 r4 r5 h
    · rw [if_neg hv, Option.some.injEq] at h
      simp only [Prod.mk.injEq] at h
      obtain ⟨rfl, rfl, rfl, rfl, rfl, rfl⟩ := h
      exact GBetween.invalid a0 a1 w hT hs.1 hs.2 (by simpa using hv)
end Go.Proofs.YtjffpcjbbehooaaDoor.G
end
