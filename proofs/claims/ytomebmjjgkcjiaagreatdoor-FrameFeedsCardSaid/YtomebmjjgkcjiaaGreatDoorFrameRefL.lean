/-
  The document's length of a head: its contract.
-/
import Derived.Test.YtomebmjjgkcjiaaGreatDoorFrameRefH
set_option linter.unusedVariables false
namespace Go.Proofs.YtomebmjjgkcjiaaGreatDoor.G
open Go.RowKit Go.Proofs.YtomebmjjgkcjiaaGreatDoorW.PrintWords Go.Lib
theorem At_calls (A : Option Addr) (c : Nat) (l : List UInt8) (i : Nat) (w : World) (hC : Kd.C (Kd.int .u8) w A l.length (ints l)) (hc : l.length ≤ c) (hm : l.length < 140737488355000) (hi : i ≤ l.length) (b : Bool) (hb : occAt l crlf i = b) :
    Calls Tryz.prog 24 #[.slice A l.length c, .int .i64 i, .string ⟨#[13, 10]⟩] w fun e w' => e = .returned (.bool b) ∧ Below w.heap.size w w' := by
  have h := PRf.parlanceref03_at.calls A c (ints l) i ⟨#[13, 10]⟩ b w (by rw [ints_length]; exact hC) (by rw [ints_length]; exact hc) (by rw [← hb]; exact at_f l i ⟨#[13, 10]⟩ crlf rfl (by decide) (by decide) (by omega) hi)
  rw [ints_length] at h
  refine h.mono ?_
  rintro e w' ⟨rfl, hd⟩
  exact ⟨rfl, hd.below⟩
theorem Field_ref (A : Option Addr) (c : Nat) (l : List UInt8) (n : Nat) (w : World) (hn : l.length = n) (hC : Kd.C (Kd.int .u8) w A n (ints l)) (hc : n ≤ c) (hm : n < 140737488355000) :
    Calls Tryz.prog 25 #[.slice A n c] w fun e w' => e = .returned (.int .i64 (fieldV l)) ∧ Below w.heap.size w w' := by
  subst hn
  obtain ⟨K, hK⟩ := (field_ev l (by omega)).rounds
  have hF := Kd.C_F (Kd.heap_int .u8) (w := w) (A := A) (n := (ints l).length) (xs := ints l) (by rw [ints_length]; exact hC)
  have h := PRf.parlanceref03_field.calls K (fun k => k < w.heap.size) A c (ints l) (fieldV l) w (Kd.V_mk (by rw [ints_length]; exact hc) hF) hK
  rw [ints_length] at h
  exact h
theorem Head_ref (A : Option Addr) (c : Nat) (l : List UInt8) (w : World) (hC : Kd.C (Kd.int .u8) w A l.length (ints l)) (hc : l.length ≤ c) (hm : l.length < 140737488355000) :
    Calls Tryz.prog 18 #[.slice A l.length c] w fun e w' => e = .returned (.int .i64 (headV l)) ∧ Below w.heap.size w w' := by
  obtain ⟨K, hK⟩ := (head_ev l hm).rounds
  have h := PRf.parlanceref03_head.calls K A c (ints l) (headV l) w (by rw [ints_length]; exact hC) (by rw [ints_length]; exact hc) hK
  rw [ints_length] at h
  refine h.mono ?_
  rintro e w' ⟨rfl, hd⟩
  exact ⟨rfl, hd.below⟩
theorem cutR (Ar : Option Addr) (r : List UInt8) (cr m : Nat) (hm : m ≤ r.length) (hr : r.length ≤ cr) {W : World} (hC : Kd.C (Kd.int .u8) W Ar r.length (ints r)) :
    (∀ w : World, (Instr.slice 27 (.slice Ar r.length cr) none (some (.int .i64 m)) none).run Tryz.prog w = .ok (.slice Ar m cr) w) ∧
    (∃ Ar2, (∀ w : World, (Instr.slice 27 (.slice Ar r.length cr) (some (.int .i64 m)) none none).run Tryz.prog w = .ok (.slice Ar2 (r.length - m) (cr - m)) w) ∧ Kd.C (Kd.int .u8) W Ar2 (r.drop m).length (ints (r.drop m))) := by
  obtain ⟨i0, hi, hz0, hz1, hz2⟩ := info_parts info8
  refine ⟨fun w => ?_, ⟨if cr = m then Ar else Ar.map (·.add (m * 1)), fun w => ?_, ?_⟩⟩
  · have := cut_to (P := Tryz.prog) 27 5 .i64 Tryz.underlying27 hi Ar r.length cr (m : Int) (by omega) (by omega) hr w
    simpa using this
  · have := cut_from (P := Tryz.prog) 27 5 .i64 Tryz.underlying27 hi 1 hz1 Ar r.length cr (m : Int) (by omega) (by omega) w
    simpa using this
  · have := Kd.C_drop (m := m) (c := cr) (show Kd.C (Kd.int .u8) W Ar (ints r).length (ints r) by rw [ints_length]; exact hC) (by rw [ints_length]; exact hm) (by rw [ints_length]; exact hr)
    rw [← ints_drop, ints_length] at this
    exact this
set_option maxHeartbeats 4000000 in
set_option maxRecDepth 100000 in
theorem Length_ref (A : Option Addr) (c : Nat) (R : List UInt8) (ls : List (List UInt8)) (hR : Lines ls R) (w : World) (hC : Kd.C (Kd.int .u8) w A (R.length + 2) (ints (R ++ crlf))) (hc : R.length + 2 ≤ c) (hm : R.length < 140737488354000) :
    Calls Tryz.prog 19 #[.slice A (R.length + 2) c] w fun e w' => e = .returned (.int .i64 (refLen (-1) ls)) ∧ Below w.heap.size w w' := by
  have hl2 : (R ++ crlf).length = R.length + 2 := by rw [List.length_append]; rfl
  have hcut := (cutR A (R ++ crlf) c R.length (by omega) (by omega) (by rw [hl2]; exact hC)).1
  rw [hl2] at hcut
  have hCR := take_C (l := R ++ crlf) (by rw [hl2]; exact hC) R.length (by omega)
  rw [List.take_left] at hCR
  have HCR := Aside0.mk (And.intro hCR (show R.length ≤ c by omega))
  have HLN := Aside0.mk hR
  have hw2 : wrap64 (((R.length + 2 : Nat) : Int) - 2) = (R.length : Int) := by unfold wrap64; omega
  have hw3 : wrap64 ((R.length : Int) + 2 - 2) = (R.length : Int) := by unfold wrap64; omega
  clear hl2 hC hc hCR hR
  go_enter Tryz.func19, Tryz.ntmps19
  go_wp2_with (fail)
  clear hcut hw2 hw3
  go_loopg [0, 3, 4, 5] (R.length + 1) (fun gk v0 v3 _ _ wx => ∃ (ls' : List (List UInt8)) (R' : List UInt8) (Ar : Option Addr) (cr : Nat) (f : Int), v0 = .slice Ar R'.length cr ∧ v3 = .int .i64 f ∧ Aside0 (Lines ls' R' ∧ refLen f ls' = refLen (-1) ls ∧ -1 ≤ f ∧ f < 1000000) ∧ Aside0 (Kd.C (Kd.int .u8) w Ar R'.length (ints R') ∧ R'.length ≤ cr) ∧ Aside0 (R'.length < gk ∧ R'.length ≤ R.length) ∧ Aside0 (Below w.heap.size w wx))
  case atStart => exact ⟨ls, R, A, c, -1, rfl, rfl, ⟨HLN.out, rfl, by decide, by decide⟩, HCR, ⟨by omega, Nat.le_refl _⟩, ⟨Below.refl _ _⟩⟩
  case round =>
    obtain ⟨ls', R', Ar, cr, f, rfl, rfl, HL, HC, HM, HB⟩ := hrel
    obtain ⟨hLines, hRL, hf1, hf2⟩ := HL.out
    have HRL := Aside0.mk hRL
    cases hLines with
    | nil =>
      clear hRL
      go_wp2_with (fail)
      go_ret
      refine ⟨?_, HB.out⟩
      rw [← HRL.out]
      rfl
    | cons t ts R2 hts hix =>
      have hg := fieldV_ge t
      have HT := Aside0.mk hts
      have hR2 : (t ++ crlf ++ R2).length = t.length + 2 + R2.length := by rw [List.length_append, List.length_append]; rfl
      have hocc : ∀ j, j < t.length → occAt (t ++ crlf ++ R2) crlf j = false := by
        rcases index_spec (t ++ crlf ++ R2) crlf with ⟨h1, _⟩ | ⟨i, h1, _, _, h4⟩
        · omega
        · intro j hj
          exact h4 j (by omega)
      have hoc2 : occAt (t ++ crlf ++ R2) crlf t.length = true := by
        rcases index_spec (t ++ crlf ++ R2) crlf with ⟨h1, _⟩ | ⟨i, h1, _, h3, h4⟩
        · omega
        · have : i = t.length := by omega
          subst this
          exact h3
      have htk : (t ++ crlf ++ R2).take t.length = t := by rw [List.append_assoc, List.take_left]
      have hdr : (t ++ crlf ++ R2).drop (t.length + 2) = R2 := by
        rw [show t.length + 2 = (t ++ crlf).length by rw [List.length_append]; rfl, List.drop_left]
      have hm2 := HM.out.2
      obtain ⟨c1, _⟩ := cutR Ar (t ++ crlf ++ R2) cr t.length (by omega) HC.out.2 HC.out.1
      obtain ⟨_, Ar2, c2, hC2⟩ := cutR Ar (t ++ crlf ++ R2) cr (t.length + 2) (by omega) HC.out.2 HC.out.1
      have hCt := take_C HC.out.1 t.length (by omega)
      rw [htk] at hCt
      rw [hdr] at hC2
      have hl2 : (t ++ crlf ++ R2).length - (t.length + 2) = R2.length := by omega
      rw [hl2] at c2
      have c3 : ∀ w0 : World, (Instr.slice 27 (.slice Ar (t ++ crlf ++ R2).length cr) (some (.int .i64 ((t.length : Int) + 2))) none none).run Tryz.prog w0 = .ok (.slice Ar2 R2.length (cr - (t.length + 2))) w0 := c2
      clear c2
      have HCC := Aside0.mk (And.intro hCt hC2)
      have HO := Aside0.mk (And.intro hocc hoc2)
      have HAT := Aside0.mk (fun (W : World) (i : Nat) (b : Bool) (hb : Below w.heap.size w W) (hi : i ≤ (t ++ crlf ++ R2).length) (ho : occAt (t ++ crlf ++ R2) crlf i = b) => At_calls Ar cr (t ++ crlf ++ R2) i W (Kd.C_below HC.out.1 hb) HC.out.2 (by omega) hi b ho)
      have hbig : t.length < 140737488354000 := by omega
      clear hts hix hocc hoc2 htk hdr hCt hC2 hl2 hRL
      generalize (t ++ crlf ++ R2).length = N at *
      have hpos : 0 < N := by omega
      have hposb : decide (0 < N) = true := decide_eq_true hpos
      have HN := Aside0.mk hR2
      clear hR2 hpos hf1 hf2 hg hm2
      go_wp2_with (fail)
      obtain ⟨wo, hwo⟩ : ∃ wo, wo = wr := ⟨_, rfl⟩
      rw [← hwo] at HB ⊢
      clear hwo
      obtain ⟨gO, rfl⟩ : ∃ g, g = gk := ⟨gk, rfl⟩
      go_loopg [4] (t.length + 1) (fun gj v4 wx => ∃ i : Nat, v4 = .int .i64 i ∧ Aside0 (i ≤ t.length ∧ t.length - i < gj) ∧ Aside0 (Below w.heap.size w wx))
      case atStart => exact ⟨0, rfl, ⟨Nat.zero_le _, by omega⟩, HB⟩
      case round =>
        obtain ⟨i, rfl, HI, HB2⟩ := hrel
        by_cases hlt : i < t.length
        · go_wp2_with (go_at_call 24; refine (HAT.out _ i false HB2.out (by have := HN.out; omega) (HO.out.1 i hlt)).mono ?_; rintro e w3 ⟨rfl, hb3⟩; have HB3 := Aside0.mk (below_step HB2.out hb3); clear hb3)
          obtain ⟨G, rfl⟩ : ∃ G, gk = G + 1 := ⟨gk - 1, by have := HI.out; omega⟩
          go_roundg G
          case measure => omega
          case rel => exact ⟨i + 1, by go_num, ⟨by omega, by have := HI.out.2; omega⟩, HB3⟩
        · obtain rfl : i = t.length := by have := HI.out.1; omega
          go_wp2_with (go_at_call 24; refine (HAT.out _ t.length true HB2.out (by have := HN.out; omega) HO.out.2).mono ?_; rintro e w3 ⟨rfl, hb3⟩; have HB3 := Aside0.mk (below_step HB2.out hb3); clear hb3)
          refine (Field_ref Ar cr t t.length w3 rfl (Kd.C_below HCC.out.1 HB3.out) (by have := HC.out.2; have := HN.out; omega) (by omega)).mono ?_
          rintro e w4 ⟨rfl, hb4⟩
          have HB4 := Aside0.mk (below_step HB3.out hb4)
          clear hb4
          have HRF := Aside0.mk (show refLen f (t :: ts) = if fieldV t = -2 ∨ (0 ≤ fieldV t ∧ 0 ≤ f) then -1 else refLen (if 0 ≤ fieldV t then fieldV t else f) ts from rfl)
          have hg := fieldV_ge t
          generalize fieldV t = q at *
          have HF := Aside0.mk (And.intro HL.out.2.2.1 HL.out.2.2.2)
          have HG := Aside0.mk hg
          clear hg
          by_cases q2 : q = -2
          · have q2b : (q == -2) = true := by rw [beq_iff_eq]; exact q2
            have HQ := Aside0.mk q2
            clear q2
            go_wp2_with (fail)
            go_ret
            refine ⟨?_, HB4.out⟩
            have hh : refLen (-1) ls = -1 := by rw [← HRL.out, HRF.out, if_pos (.inl HQ.out)]
            rw [hh]
            rfl
          · have q2b : (q == -2) = false := by rw [beq_eq_false_iff_ne]; exact q2
            have HQ := Aside0.mk q2
            clear q2
            by_cases q0 : 0 ≤ q
            · have q0b : decide (0 ≤ q) = true := decide_eq_true q0
              have HQ0 := Aside0.mk q0
              clear q0
              by_cases f0 : 0 ≤ f
              · have f0b : decide (0 ≤ f) = true := decide_eq_true f0
                have HF0 := Aside0.mk f0
                clear f0
                go_wp2_with (fail)
                go_ret
                refine ⟨?_, HB4.out⟩
                have hh : refLen (-1) ls = -1 := by rw [← HRL.out, HRF.out, if_pos (.inr ⟨HQ0.out, HF0.out⟩)]
                rw [hh]
                rfl
              · have f0b : decide (0 ≤ f) = false := decide_eq_false f0
                have HF0 := Aside0.mk f0
                clear f0
                go_wp2_with (fail)
                obtain ⟨G, rfl⟩ : ∃ G, gO = G + 1 := ⟨gO - 1, by have := HM.out; omega⟩
                go_roundg G
                case measure => omega
                case rel =>
                  have hq := HQ0.out
                  have hq2 := HQ.out
                  have hf := HF0.out
                  have hn := HN.out
                  have hmm := HM.out
                  have hcc := HC.out.2
                  refine ⟨ts, R2, Ar2, cr - (t.length + 2), q, rfl, rfl, ⟨HT.out, ?_, by omega, HG.out.2⟩, ⟨HCC.out.2, by omega⟩, ⟨by omega, by omega⟩, HB4⟩
                  rw [← HRL.out, HRF.out, if_neg (by omega), if_pos hq]
            · have q0b : decide (0 ≤ q) = false := decide_eq_false q0
              have HQ0 := Aside0.mk q0
              clear q0
              go_wp2_with (fail)
              obtain ⟨G, rfl⟩ : ∃ G, gO = G + 1 := ⟨gO - 1, by have := HM.out; omega⟩
              go_roundg G
              case measure => omega
              case rel =>
                have hq := HQ0.out
                have hq2 := HQ.out
                have hn := HN.out
                have hmm := HM.out
                have hcc := HC.out.2
                refine ⟨ts, R2, Ar2, cr - (t.length + 2), f, rfl, rfl, ⟨HT.out, ?_, HF.out.1, HF.out.2⟩, ⟨HCC.out.2, by omega⟩, ⟨by omega, by omega⟩, HB4⟩
                rw [← HRL.out, HRF.out, if_neg (by omega), if_neg (by omega)]
end Go.Proofs.YtomebmjjgkcjiaaGreatDoor.G
