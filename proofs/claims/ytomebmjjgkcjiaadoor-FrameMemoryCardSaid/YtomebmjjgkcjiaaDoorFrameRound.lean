/-
  The law FrameRound: its walk.
-/
import Derived.Test.YtomebmjjgkcjiaaDoorFrameEncLaw
set_option linter.unusedVariables false
namespace Go.Proofs.YtomebmjjgkcjiaaDoor.G
open Go.RowKit Go.Proofs.YtomebmjjgkcjiaaDoorW.PrintWords Go.Lib
/-- A list's size, as the laws reckon it. -/
def sizeL (ps : List (List UInt8)) : Nat := (ps.map fun p => 1 + p.length).sum
theorem sizeL_cons (p : List UInt8) (ps : List (List UInt8)) : sizeL (p :: ps) = 1 + p.length + sizeL ps := by simp [sizeL]
theorem sizeL_append (ps qs : List (List UInt8)) : sizeL (ps ++ qs) = sizeL ps + sizeL qs := by simp [sizeL]
def grB (ps : List (List UInt8)) : Bool := decide (200 < ps.length ∨ 200000 < sizeL ps)
theorem rd_ints (ps : List (List UInt8)) (i : Nat) (h : i < ps.length) : PUt.rd_L1 (ps.map ints) (i : Int) = ints ps[i] := by
  unfold PUt.rd_L1
  rw [Int.toNat_natCast, List.getD_eq_getElem?_getD, List.getElem?_map, List.getElem?_eq_getElem h]
  rfl
theorem great_many (L : List (List Int)) (h : 200 < L.length) (hm : L.length < 4611686018427387904) : ∀ (d i : Nat) (n : Int), L.length - i = d → i ≤ L.length → PUt.parlancelaw03_great.l0 (d + 1) L n (i : Int) = some true
  | 0, i, n, hd, hi => by
    unfold PUt.parlancelaw03_great.l0
    rw [if_neg (by omega)]
    split
    · rfl
    · rw [decide_eq_true (by omega)]
  | d + 1, i, n, hd, hi => by
    unfold PUt.parlancelaw03_great.l0
    rw [if_pos (by omega), if_pos (by omega)]
    have e : wrap64 ((i : Int) + 1) = ((i + 1 : Nat) : Int) := by unfold wrap64; omega
    rw [e]
    exact great_many L h hm d (i + 1) _ (by omega) (by omega)
theorem great_few (ps : List (List UInt8)) (h : ps.length ≤ 200) (hm : ∀ p ∈ ps, p.length ≤ 140737488355328) : ∀ (d i : Nat), ps.length - i = d → i ≤ ps.length → sizeL (ps.take i) ≤ i * 140737488355329 → PUt.parlancelaw03_great.l0 (d + 1) (ps.map ints) (sizeL (ps.take i)) (i : Int) = some (decide (200000 < sizeL ps))
  | 0, i, hd, hi, hs => by
    unfold PUt.parlancelaw03_great.l0
    have hil : i = ps.length := by omega
    subst hil
    rw [List.length_map, if_neg (by omega), List.take_length]
    by_cases hb : 200000 < sizeL ps
    · rw [if_pos (by omega), decide_eq_true hb]
    · rw [if_neg (by omega), decide_eq_false hb, decide_eq_false (by omega)]
  | d + 1, i, hd, hi, hs => by
    have hlt : i < ps.length := by omega
    have hp := hm ps[i] (List.getElem_mem hlt)
    unfold PUt.parlancelaw03_great.l0
    rw [List.length_map, if_pos (by omega), if_pos (by omega), rd_ints ps i hlt, ints_length]
    have e : wrap64 ((i : Int) + 1) = ((i + 1 : Nat) : Int) := by unfold wrap64; omega
    have e2 : wrap64 (1 + (ps[i].length : Int)) = 1 + (ps[i].length : Int) := by unfold wrap64; omega
    have hst : sizeL (ps.take (i + 1)) = sizeL (ps.take i) + (1 + ps[i].length) := by
      rw [List.take_succ_eq_append_getElem hlt, sizeL_append, sizeL_cons]
      simp [sizeL]
    have e3 : wrap64 ((sizeL (ps.take i) : Int) + (1 + (ps[i].length : Int))) = ((sizeL (ps.take (i + 1)) : Nat) : Int) := by rw [hst]; unfold wrap64; omega
    rw [e, e2, e3]
    exact great_few ps h hm d (i + 1) (by omega) (by omega) (by rw [hst, Nat.add_mul]; omega)
theorem great_f (ps : List (List UInt8)) (hl : ps.length < 4611686018427387904) (hm : ∀ p ∈ ps, p.length ≤ 140737488355328) : PUt.parlancelaw03_great.f (ps.length + 1) (ps.map ints) = some (grB ps) := by
  unfold PUt.parlancelaw03_great.f grB
  by_cases h : 200 < ps.length
  · rw [decide_eq_true (.inl h)]
    exact great_many _ (by rw [List.length_map]; exact h) (by rw [List.length_map]; exact hl) _ 0 0 (by rw [List.length_map]; rfl) (Nat.zero_le _)
  · have := great_few ps (by omega) hm ps.length 0 rfl (Nat.zero_le _) (by simp [sizeL])
    rw [List.take_zero] at this
    have e : decide (200000 < sizeL ps) = decide (200 < ps.length ∨ 200000 < sizeL ps) := by simp [h]
    rw [← e]
    exact this
theorem Great_calls (A : Option Addr) (c : Nat) (ps : List (List UInt8)) (w : World) (hC : Kd.C (Kd.slice 5 (Kd.int .u8)) w A ps.length (ps.map ints)) (hc : ps.length ≤ c) (hl : ps.length < 4611686018427387904) (hm : ∀ p ∈ ps, p.length ≤ 140737488355328) :
    Calls Tryd.prog 19 #[.slice A ps.length c] w fun e w' => e = .returned (.bool (grB ps)) ∧ Below w.heap.size w w' := by
  have h := PUt.parlancelaw03_great.calls (ps.length + 1) A c (ps.map ints) (grB ps) w (by rw [List.length_map]; exact hC) (by rw [List.length_map]; exact hc) (great_f ps hl hm)
  rw [List.length_map] at h
  refine h.mono ?_
  rintro e w' ⟨rfl, hd⟩
  exact ⟨rfl, hd.below⟩
theorem sizeL_take (ps : List (List UInt8)) (i : Nat) (h : i < ps.length) : sizeL (ps.take (i + 1)) = sizeL (ps.take i) + (1 + ps[i].length) := by
  rw [List.take_succ_eq_append_getElem h, sizeL_append, sizeL_cons]
  simp [sizeL]
theorem sizeL_le (ps : List (List UInt8)) (i : Nat) : sizeL (ps.take i) ≤ sizeL ps := by
  conv => rhs; rw [← List.take_append_drop i ps]
  rw [sizeL_append]
  omega
theorem encsL_take (ps : List (List UInt8)) (i : Nat) (h : i < ps.length) : encsL (ps.take (i + 1)) = encsL (ps.take i) ++ encL ps[i] := by
  unfold encsL
  rw [List.take_succ_eq_append_getElem h, List.flatMap_append]
  simp
theorem encL_len (b : List UInt8) (h : b.length ≤ 65536) : b.length < (encL b).length ∧ (encL b).length ≤ b.length + 50 := by
  have hl := decDigits_len 5 b.length (by omega)
  have h16 : preB.length = 16 := rfl
  have h4 : ends.length = 4 := rfl
  rw [encL_eq]
  simp only [List.length_append]
  omega
theorem encsL_len (ps : List (List UInt8)) (h : ∀ p ∈ ps, p.length ≤ 65536) : (encsL ps).length ≤ sizeL ps * 50 := by
  induction ps with
  | nil => simp [encsL]
  | cons p ps ih =>
    have e : encsL (p :: ps) = encL p ++ encsL ps := by simp [encsL]
    rw [e, List.length_append, sizeL_cons]
    have := ih (fun q hq => h q (by simp [hq]))
    have := (encL_len p (h p (by simp))).2
    omega
theorem enc_last (ps : List (List UInt8)) : (encsL (ps.take (ps.length - 1))).length ≤ (encsL ps).length ∧ (ps.length = 0 → (encsL ps).length = 0) ∧ (0 < ps.length → ∃ z, ps = ps.take (ps.length - 1) ++ [z] ∧ encsL ps = encsL (ps.take (ps.length - 1)) ++ encL z) := by
  rcases List.eq_nil_or_concat ps with rfl | ⟨qs, z, rfl⟩
  · simp [encsL]
  · have e : (qs ++ [z]).length - 1 = qs.length := by simp
    rw [List.concat_eq_append, e, List.take_left]
    have e2 : encsL (qs ++ [z]) = encsL qs ++ encL z := by simp [encsL]
    refine ⟨by rw [e2, List.length_append]; omega, fun h => by simp at h, fun _ => ⟨z, rfl, e2⟩⟩
theorem feed_cut (init : List (List UInt8)) (z : List UInt8) (h : ∀ p ∈ init ++ [z], p.length ≤ 65536) (k : Nat) (h0 : 0 < k) (hk : k ≤ (encL z).length) :
    feedL ((encsL init ++ encL z).take ((encsL init ++ encL z).length - k)) = (init, (encL z).take ((encL z).length - k), 0) := by
  have e : (encsL init ++ encL z).take ((encsL init ++ encL z).length - k) = encsL init ++ (encL z).take ((encL z).length - k) := by
    rw [List.take_append, List.take_of_length_le (by rw [List.length_append]; omega), List.length_append]
    congr 2
    omega
  have hz := h z (by simp)
  have hl := encL_len z hz
  rw [e, feed_encs init _ (fun p hp => h p (by simp [hp])), feed_front z _ hz (by omega), List.append_nil]
set_option maxHeartbeats 4000000 in
set_option maxRecDepth 100000 in
theorem round_calls (A : Option Addr) (c : Nat) (ps : List (List UInt8)) (cut : Int) (w : World) (hT : TF w) (hC : Kd.C (Kd.slice 5 (Kd.int .u8)) w A ps.length (ps.map ints)) (hc : ps.length ≤ c) (hl : ps.length < 4611686018427387904) (hm : ∀ p ∈ ps, p.length ≤ 140737488355328) (hcut : -9223372036854775808 ≤ cut ∧ cut ≤ 9223372036854775807) :
    Calls Tryd.prog 6 #[.slice A ps.length c, .int .i64 cut] w fun e w' => e = .returned (.bool true) ∧ Below w.heap.size w w' := by
  have HA := Aside0.mk (Alive_calls w hT)
  have HG := Aside0.mk (fun (W : World) (hb : Below w.heap.size w W) => Great_calls A c ps W (Kd.C_below hC hb) hc hl hm)
  have HCT := Aside0.mk hcut
  by_cases hbig : grB ps = true
  · rw [hbig] at HG
    clear hbig hC hc hT hl hm hcut
    go_enter Tryd.func6, Tryd.ntmps6
    go_wp2_with (go_at_call 9; refine HA.out.mono ?_; rintro e w1 ⟨rfl, hb⟩; have HB1 := Aside0.mk hb; clear hb)
    refine (HG.out w1 HB1.out).mono ?_
    rintro e w2 ⟨rfl, hb2⟩
    have HB2 := Aside0.mk (below_step HB1.out hb2)
    clear hb2
    go_wp2_with (fail)
    go_ret
    exact ⟨rfl, HB2.out⟩
  · rw [Bool.not_eq_true] at hbig
    have hg := of_decide_eq_false hbig
    rw [hbig] at HG
    have HT := Aside0.mk hT
    have HC := Aside0.mk (And.intro hC hc)
    have HL := Aside0.mk (show ps.length ≤ 200 ∧ sizeL ps ≤ 200000 by omega)
    have hl200 : ps.length ≤ 200 := by omega
    clear hbig hC hc hT hl hm hcut hg
    go_enter Tryd.func6, Tryd.ntmps6
    go_wp2_with (go_at_call 9; refine HA.out.mono ?_; rintro e w1 ⟨rfl, hb⟩; have HB1 := Aside0.mk hb; clear hb)
    refine (HG.out w1 HB1.out).mono ?_
    rintro e w2 ⟨rfl, hb2⟩
    have HB2 := Aside0.mk (below_step HB1.out hb2)
    clear hb2
    go_wp2_with (fail)
    have HR0 := Aside0.mk (R_empty (Kd.int .u8) 5 w.heap.size w2 HB2.out.size)
    have HB3 := Aside0.mk (below_alloc HB2.out (.cells #[] 5))
    go_loopg [5, 6, 7, 8, 9, 24] (ps.length + 1) (fun gk v5 v6 v7 _ _ _ wx => ∃ i : Nat, v7 = .int .i64 i ∧ v6 = .int .i64 ((encsL (ps.take (i - 1))).length : Nat) ∧ Aside0 (i ≤ ps.length ∧ ps.length - i < gk ∧ ∀ p ∈ ps.take i, p.length ≤ 65536) ∧ Aside0 (OwnB wx w.heap.size v5 (ints (encsL (ps.take i)))) ∧ Aside0 (Below w.heap.size w wx))
    case atStart => exact ⟨0, rfl, rfl, ⟨Nat.zero_le _, by omega, by simp⟩, HR0, HB3⟩
    case round =>
      obtain ⟨i, rfl, rfl, HI, HO, HB⟩ := hrel
      by_cases hlt : i < ps.length
      · have hlb : decide ((i : Int) < (ps.length : Int)) = true := decide_eq_true (by omega)
        obtain ⟨ad, B, cb, rfl, hcell, hbl, hCB⟩ := row_at (Kd.C_below HC.out.1 HB.out) i rfl hlt
        have HX := Aside0.mk (And.intro hbl hCB)
        have HET := Aside0.mk (encsL_take ps i hlt)
        have HST := Aside0.mk (And.intro (sizeL_take ps i hlt) (sizeL_le ps (i + 1)))
        have HTK := Aside0.mk (show ∀ p ∈ ps.take (i + 1), p ∈ ps.take i ∨ p = ps[i] by
          intro p hp
          rw [List.take_succ_eq_append_getElem hlt] at hp
          rcases List.mem_append.1 hp with h | h
          · exact .inl h
          · exact .inr (List.mem_singleton.1 h))
        clear hbl hCB
        generalize ps[i] = x at *
        have HXL := Aside0.mk (show x.length < 200000 by have h1 := HST.out.1; have h2 := HST.out.2; have h3 := HL.out.2; omega)
        obtain ⟨Av, cv, rfl, hlv, hCv⟩ := Kd.R_reads HO.out
        rw [ints_length] at hlv hCv HO ⊢
        clear hlv hCv
        go_wp2_with (go_at_call 14; refine (Copy_calls B cb x _ HX.out.2 HX.out.1 (by have := HXL.out; omega)).mono ?_; rintro e w4 ⟨A4, c4, rfl, hr4, hb4⟩; have H4 := Aside0.mk (own_reads hr4); have HB4 := Aside0.mk (And.intro (below_step HB.out hb4) hb4); clear hr4 hb4)
        by_cases h65 : x.length ≤ 65536
        · have HEN := Aside0.mk (encL_len x h65)
          have H65 := Aside0.mk h65
          have HSL := Aside0.mk (encsL_len (ps.take i) HI.out.2.2)
          refine (Encode_calls A4 c4 x w4 (TF_below HT.out HB4.out.1) H4.out.2 H4.out.1 h65).mono ?_
          rintro e w5 ⟨A5, c5, rfl, hO5, hb5⟩
          have H5 := Aside0.mk (own_reads hO5)
          have HB5 := Aside0.mk (And.intro (below_step HB4.out.1 hb5) (below_step HB4.out.2 hb5))
          clear hO5 hb5 h65
          generalize encL x = E at *
          have hsz : (encsL (ps.take i)).length ≤ 20000000 := by have h1 := HSL.out; have h2 := HST.out.1; have h3 := HST.out.2; have h4 := HL.out.2; omega
          have hE : E.length ≤ 300000 := by have := HEN.out.2; have := HXL.out; omega
          generalize hSS : encsL (ps.take i) = S at HO HET hsz ⊢
          have HSS := Aside0.mk hSS
          clear hSS
          go_wp2_with (at_builtin; refine Kd.R_append_rows (Kd.int .u8) (w0 := w) w.heap.size rfl (.tmp 47) (.tmp 48) 22 5 (.int .u8 0) 1 rfl Tryd.underlying22 info8 rfl (by decide) (by decide) (.slice Av S.length cv) (ints S) (ints E) A5 _ _ (fun _ => True) (fun _ => False) rfl rfl ?aO ?aR (fun _ _ h => h) (fun _ h => h.elim) (fun _ _ => trivial) HB5.out.1 ?aS ?aL ?_; (case aO => exact Kd.R_below HO.out HB5.out.2); (case aR => exact H5.out.2); (case aS => exact HB5.out.1.size); (case aL => rw [ints_length]; omega); intro v6 w6 hr6 hb6 _ _; have H6 := Aside0.mk (And.intro hr6 hb6); clear hr6 hb6)
          obtain ⟨G, rfl⟩ : ∃ G, gk = G + 1 := ⟨gk - 1, by have := HI.out; omega⟩
          go_roundg G
          case measure => omega
          case rel =>
            have hi := HI.out.2.1
            refine ⟨i + 1, by go_num, by rw [Nat.add_sub_cancel, HSS.out], ⟨by omega, by omega, fun p hp => ?_⟩, ⟨?_⟩, ⟨H6.out.2⟩⟩
            · rcases HTK.out p hp with h | rfl
              · exact HI.out.2.2 p h
              · exact H65.out
            · rw [HET.out, ints_append]
              exact H6.out.1
        · refine (Encode_long A4 c4 x w4 (by omega)).mono ?_
          rintro e w5 ⟨rfl, rfl⟩
          have hcell5 := (HB4.out.2.cell (World.block_lt_of_cell? wr _ hcell)).trans hcell
          have hgt : decide ((65536 : Int) < (x.length : Int)) = true := decide_eq_true (by omega)
          go_wp2_with (fail)
          go_ret
          exact ⟨rfl, HB4.out.1⟩
      · have hlb : decide ((i : Int) < (ps.length : Int)) = false := decide_eq_false (by omega)
        obtain rfl : i = ps.length := by have := HI.out.1; omega
        have hall : ∀ p ∈ ps, p.length ≤ 65536 := by have := HI.out.2.2; rw [List.take_length] at this; exact this
        have HALL := Aside0.mk hall
        have hfe := feed_encs ps [] hall
        rw [List.append_nil, feedL_nil] at hfe
        have hSL : (encsL ps).length ≤ 20000000 := by have h1 := encsL_len ps hall; have h4 := HL.out.2; omega
        rw [List.take_length] at HO
        obtain ⟨Av, cv, rfl, hlv, hCv⟩ := Kd.R_reads HO.out
        rw [ints_length] at hlv hCv ⊢
        have HV := Aside0.mk (And.intro hlv hCv)
        have HFE := Aside0.mk hfe
        clear hlv hCv hall hlt HO hfe
        have HSE := Aside0.mk (show (encsL (ps.take (ps.length - 1))).length ≤ (encsL ps).length ∧ (ps.length = 0 → (encsL ps).length = 0) ∧ (0 < ps.length → ∃ z, ps = ps.take (ps.length - 1) ++ [z] ∧ encsL ps = encsL (ps.take (ps.length - 1)) ++ encL z) from enc_last ps)
        generalize hM : encsL (ps.take (ps.length - 1)) = M at *
        generalize hS : encsL ps = S at *
        have HMS := Aside0.mk (And.intro hM hS)
        clear hM hS
        go_wp2_with (fail)
        have hb5 : Below w.heap.size w (wr.alloc (.cells #[.slice Av S.length cv] 22)) := below_alloc HB.out _
        refine (all_one wr.heap.size Av cv S _ (TF_below HT.out hb5) (World.cell?_alloc_mark _ _ _ _ 0) HV.out.1 (Kd.C_below HV.out.2 (below_alloc (Below.refl _ _) _)) (by omega)).mono ?_
        rw [HFE.out]
        rintro e w6 ⟨A6, c6, rfl, hl6, hC6, hb6⟩
        simp only [List.append_nil] at hl6 hC6 ⊢
        have H6 := Aside0.mk (And.intro hl6 hC6)
        have HB6 := Aside0.mk (And.intro (below_step hb5 hb6) (below_step (below_alloc (Below.refl wr.heap.size wr) _) hb6))
        clear hb5 hl6 hC6 hb6
        go_wp2_with (fail)
        refine (SameRows_calls A6 A c6 c ps.length ps w6 rfl H6.out.2 H6.out.1 (Kd.C_below HC.out.1 HB6.out.1) HC.out.2 (fun l hl => by have := HALL.out l hl; omega) (by omega)).mono ?_
        rintro e w7 ⟨rfl, hb7⟩
        have HB7 := Aside0.mk (And.intro (below_step HB6.out.1 hb7) (below_step HB6.out.2 hb7))
        clear hb7
        have hMS := HSE.out.1
        have hwr : wrap64 ((S.length : Int) - (M.length : Int)) = (S.length : Int) - (M.length : Int) := by unfold wrap64; omega
        by_cases hc0 : cut ≤ 0
        · have hc0b : decide (cut ≤ 0) = true := decide_eq_true hc0
          go_wp2_with (fail)
          go_ret
          exact ⟨rfl, HB7.out.1⟩
        · have hc0b : decide (cut ≤ 0) = false := decide_eq_false hc0
          by_cases hc1 : (S.length : Int) - (M.length : Int) < cut
          · have hc1b : decide ((S.length : Int) - (M.length : Int) < cut) = true := decide_eq_true hc1
            go_wp2_with (fail)
            go_ret
            exact ⟨rfl, HB7.out.1⟩
          · have hc1b : decide ((S.length : Int) - (M.length : Int) < cut) = false := decide_eq_false hc1
            obtain ⟨k, rfl⟩ : ∃ k : Nat, cut = (k : Int) := ⟨cut.toNat, by omega⟩
            obtain ⟨z, hpz, hSz⟩ := HSE.out.2.2 (by
              rcases Nat.eq_zero_or_pos ps.length with h | h
              · have := HSE.out.2.1 h; omega
              · exact h)
            have hSl : S.length = M.length + (encL z).length := by rw [hSz, List.length_append]
            have hfc := feed_cut (ps.take (ps.length - 1)) z (by rw [← hpz]; exact HALL.out) k (by omega) (by omega)
            rw [HMS.out.1, ← hSz] at hfc
            have hpl : 0 < ps.length := by rw [hpz, List.length_append]; simp
            have htl : (S.take (S.length - k)).length = S.length - k := by rw [List.length_take]; omega
            have hti : (ps.take (ps.length - 1)).length = ps.length - 1 := by rw [List.length_take]; omega
            have hzl : ((encL z).take ((encL z).length - k)).length = S.length - M.length - k := by rw [List.length_take]; omega
            have HFC := Aside0.mk (And.intro hfc (And.intro htl (And.intro hti hzl)))
            have hk1 : k ≤ S.length := by omega
            have hk2 : (S.length : Int) - (k : Int) ≤ (cv : Int) := by have := HV.out.1; omega
            have hn1 : wrap64 ((ps.length : Int) - 1) = ((ps.length - 1 : Nat) : Int) := by unfold wrap64; omega
            have hn2 : (1 : Int) ≤ (ps.length : Int) := by omega
            have hn3 : (ps.length : Int) - 1 ≤ (c : Int) := by have := HC.out.2; omega
            have hq : (((S.length - M.length - k : Nat) : Int) == (S.length : Int) - (M.length : Int) - (k : Int)) = true := by
              rw [beq_iff_eq]
              omega
            have hwk : wrap64 ((S.length : Int) - (M.length : Int) - (k : Int)) = (S.length : Int) - (M.length : Int) - (k : Int) := by unfold wrap64; omega
            clear hpz hSz hSl hfc htl hti hzl
            go_wp2_with (fail)
            have hb8 : Below w.heap.size w (w7.alloc (.cells #[.slice Av (S.length - k) cv] 22)) := below_alloc HB7.out.1 _
            have hb78 := below_step HB7.out.2 (below_alloc (Below.refl w7.heap.size w7) (.cells #[.slice Av (S.length - k) cv] 22))
            have hone := all_one w7.heap.size Av cv (S.take (S.length - k)) _ (TF_below HT.out hb8) (by rw [HFC.out.2.1]; exact World.cell?_alloc_mark _ _ _ _ 0) (by rw [HFC.out.2.1]; have := HV.out.1; omega) (take_C (Kd.C_below HV.out.2 hb78) (S.length - k) (by omega)) (by rw [HFC.out.2.1]; omega)
            rw [HFC.out.1] at hone
            simp only at hone
            rw [HFC.out.2.2.1, HFC.out.2.2.2] at hone
            refine hone.mono ?_
            rintro e w9 ⟨A9, c9, rfl, hl9, hC9, hb9⟩
            have H9 := Aside0.mk (And.intro hl9 hC9)
            have HB9 := Aside0.mk (below_step hb8 hb9)
            clear hb8 hb78 hone hl9 hC9 hb9
            have hCt : Kd.C (Kd.slice 5 (Kd.int .u8)) w A (ps.length - 1) ((ps.take (ps.length - 1)).map ints) := by
              have := Kd.C_take (m := ps.length - 1) (xs := ps.map ints) (by rw [List.length_map]; exact HC.out.1) (by rw [List.length_map]; omega)
              rw [← List.map_take, List.length_map, HFC.out.2.2.1] at this
              exact this
            have HCT2 := Aside0.mk hCt
            clear hCt
            go_wp2_with (fail)
            refine (SameRows_calls A9 A c9 c (ps.length - 1) (ps.take (ps.length - 1)) w9 HFC.out.2.2.1 H9.out.2 H9.out.1 (Kd.C_below HCT2.out HB9.out) (by have := HC.out.2; omega) (fun l hl => by have := HALL.out l (List.mem_of_mem_take hl); omega) (by omega)).mono ?_
            rintro e w10 ⟨rfl, hb10⟩
            have HB10 := Aside0.mk (below_step HB9.out hb10)
            clear hb10
            go_wp2_with (fail)
            go_ret
            exact ⟨rfl, HB10.out⟩
end Go.Proofs.YtomebmjjgkcjiaaDoor.G
