/-
  parlanceref07.Between: its contract, in the printer's words.
-/
import Derived.Test.YtjffpcjbbehooaaDoorBetween
import Derived.Test.YtjffpcjbbehooaaDoorTextTx
set_option linter.unusedVariables false
namespace Go.Proofs.YtjffpcjbbehooaaDoor.G
open Go.RowKit Go.Proofs.YtjffpcjbbehooaaDoorW.PrintWords Go.Lib Go.Proofs.YtjffpcjbbehooaaDoor.PFn Go.Proofs.YtjffpcjbbehooaaDoor.PRef Go.Proofs.YtjffpcjbbehooaaDoor.PTx
set_option maxHeartbeats 4000000 in
set_option maxRecDepth 100000 in
theorem GRefBetween.valid (a0 a1 : ByteArray) (w : World) (hs : a0.size ≤ 100000) (ht : a1.size ≤ 100000) (hv : validD a0.data.toList = true) (hv1 : validD a1.data.toList = true) (r1 r2 r3 r4 : Int) (r5 : ByteArray) (h : betweenAns a0 a1 = (r1, r2, r3, r4, r5, 0)) :
    Calls Tryd.prog 23 #[.string a0, .string a1] w fun e w' => e = .returned (.tuple #[.agg #[.int .i64 r1, .int .i64 r2, .int .i64 r3, .int .i64 r4, .string r5], .int .i64 0]) ∧ Below w.heap.size w w' := by
  have HV := Aside0.mk (fun (W : World) => GRefRunes.calls a0 (runes a0.data.toList) 0 W (by unfold GRefRunes.f; rw [if_pos (by omega), if_pos hv]))
  have HV1 := Aside0.mk (fun (W : World) => GRefRunes.calls a1 (runes a1.data.toList) 0 W (by unfold GRefRunes.f; rw [if_pos (by omega), if_pos hv1]))
  have HD := Aside0.mk (And.intro hv hv1)
  have HS := Aside0.mk (And.intro hs ht)
  have H := Aside0.mk h
  have HL := Aside0.mk (And.intro (F.runes_len _ hv).1 (F.runes_len _ hv1).1)
  rw [← F.size_data, ← F.size_data] at HL
  clear hv hv1 h hs ht
  obtain ⟨rs, hrs⟩ : ∃ rs, rs = runes a0.data.toList := ⟨_, rfl⟩
  obtain ⟨us, hus⟩ : ∃ us, us = runes a1.data.toList := ⟨_, rfl⟩
  rw [← hrs] at HV HL
  rw [← hus] at HV1 HL
  have HRS := Aside0.mk hrs
  have HUS := Aside0.mk hus
  clear hrs hus
  go_enter Tryd.func23, Tryd.ntmps23
  go_upto_region 1 with (fail)
  obtain ⟨W0, hW0⟩ : ∃ W0, w.alloc (.cells #[.int .i64 0, .int .i64 0, .int .i64 0, .int .i64 0, .string ⟨#[]⟩] 31) = W0 := ⟨_, rfl⟩
  have z0 : w.heap.size + 1 = W0.heap.size := by rw [← hW0]; simp
  have b0 : Below w.heap.size w W0 := by rw [← hW0]; exact below_alloc (Below.refl _ w) _
  have c0 : W0.heap[w.heap.size]? = some (.cells #[.int .i64 0, .int .i64 0, .int .i64 0, .int .i64 0, .string ⟨#[]⟩] 31 (0, 0)) := by rw [← hW0]; exact (MapKept.heap_alloc w _).1
  have HB0 := Aside0.mk b0
  have HC0 := Aside0.mk c0
  have HZ0 := Aside0.mk z0
  rw [hW0]
  clear hW0 b0 c0 z0
  go_wp2_with (fail)
  refine (HV.out _).mono ?_
  rintro e w1 ⟨v1, rfl, hR1, hb1⟩
  obtain ⟨A1, q1, rfl, hl1, hC1⟩ := Kd.R_reads hR1
  have HB1 := Aside0.mk hb1
  have HC1 := Aside0.mk hC1
  clear hR1 hb1 hC1
  go_wp2_with (fail)
  refine (HV1.out _).mono ?_
  rintro e w2 ⟨v2, rfl, hR2, hb2⟩
  obtain ⟨A2, q2, rfl, hl2, hC2⟩ := Kd.R_reads hR2
  have HB2 := Aside0.mk (HB1.out.trans (hb2.mono HB1.out.size))
  have HCC := Aside0.mk (And.intro (Kd.C_below HC1.out hb2) hC2)
  have HLL := Aside0.mk (And.intro hl1 hl2)
  clear hR2 hb2 hC2 HC1 HB1 hl1 hl2
  go_upto_block 0 with (fail)
  go_cut [10] (fun v10 wc => ∃ pre x y : List Int, v10 = .int .i64 (pre.length : Nat) ∧ Aside0 (rs = pre ++ x ∧ us = pre ++ y ∧ lcp x y = 0) ∧ Aside0 (Below W0.heap.size W0 wc) ∧ Aside0 (Kd.C (Kd.int .i64) wc A1 rs.length rs ∧ Kd.C (Kd.int .i64) wc A2 us.length us))
  case first =>
    go_wp2_with (fail)
    go_loopg [10] (rs.length + 1) (fun gk v10 wr => ∃ pre x y : List Int, v10 = .int .i64 (pre.length : Nat) ∧ Aside0 (rs = pre ++ x ∧ us = pre ++ y) ∧ Aside0 (x.length < gk) ∧ Aside0 (Below W0.heap.size W0 wr) ∧ Aside0 (Kd.C (Kd.int .i64) wr A1 rs.length rs ∧ Kd.C (Kd.int .i64) wr A2 us.length us))
    case atStart => exact ⟨[], rs, us, rfl, ⟨rfl, rfl⟩, ⟨by omega⟩, HB2, HCC⟩
    case round =>
      obtain ⟨pre, x, y, rfl, HP, HG, HB, HC⟩ := hrel
      have e1 := congrArg List.length HP.out.1
      have e2 := congrArg List.length HP.out.2
      rw [List.length_append] at e1 e2
      have hl1 := HL.out.1
      have hl2 := HL.out.2
      have hs := HS.out.1
      have ht := HS.out.2
      cases x with
      | nil =>
        have t1 : decide ((pre.length : Nat) < rs.length) = false := by simp at e1; simp; omega
        clear e1 e2 hl1 hl2 hs ht
        go_wp2_with (fail)
        go_quiet (fail)
        go_wp2
        go_meet
        case rel => exact ⟨pre, [], y, rfl, ⟨HP.out.1, HP.out.2, lcp_nil_left _⟩, ⟨pw_below_drewN HB.out _⟩, ⟨Kd.C_drewN HC.out.1 _, Kd.C_drewN HC.out.2 _⟩⟩
      | cons r x =>
        have t1 : decide ((pre.length : Nat) < rs.length) = true := by simp at e1; simp; omega
        cases y with
        | nil =>
          have t2 : decide ((pre.length : Nat) < us.length) = false := by simp at e2; simp; omega
          clear e1 e2 hl1 hl2 hs ht
          go_wp2_with (fail)
          go_quiet (fail)
          go_wp2
          go_meet
          case rel => exact ⟨pre, r :: x, [], rfl, ⟨HP.out.1, HP.out.2, lcp_nil_right _⟩, ⟨pw_below_drewN HB.out _⟩, ⟨Kd.C_drewN HC.out.1 _, Kd.C_drewN HC.out.2 _⟩⟩
        | cons u y =>
          have t2 : decide ((pre.length : Nat) < us.length) = true := by simp at e2; simp; omega
          have p0 : 0 ≤ ((pre.length : Nat) : Int) := by omega
          have p1 : ((pre.length : Nat) : Int) < (rs.length : Int) := by simp at e1; omega
          have p2 : ((pre.length : Nat) : Int) < (us.length : Int) := by simp at e2; omega
          obtain ⟨ad1, g1, c1⟩ := Kd.at_int HC.out.1 ((pre.length : Nat) : Int) p0 p1
          obtain ⟨ad2, g2, c2⟩ := Kd.at_int HC.out.2 ((pre.length : Nat) : Int) p0 p2
          cases g1
          cases g2
          have d1 : rd rs ((pre.length : Nat) : Int) = r := by rw [HP.out.1]; simp [rd]
          have d2 : rd us ((pre.length : Nat) : Int) = u := by rw [HP.out.2]; simp [rd]
          rw [d1, Int.toNat_natCast] at c1
          rw [d2, Int.toNat_natCast] at c2
          have hb : ((pre.length : Nat) : Int) ≤ 100000 := by omega
          clear e1 e2 d1 d2 hl1 hl2 hs ht
          by_cases hru : r = u
          · subst hru
            have t3 : (r == r) = true := by simp
            go_wp2_with (fail)
            go_quiet (fail)
            go_wp2
            obtain ⟨gk, rfl⟩ : ∃ g, gk = g + 1 := ⟨gk - 1, by have := HG.out; omega⟩
            go_roundg gk
            case measure => omega
            case rel => exact ⟨pre ++ [r], x, y, by rw [List.length_append]; go_num, ⟨by simpa using HP.out.1, by simpa using HP.out.2⟩, ⟨by have := HG.out; simp at this; omega⟩, ⟨pw_below_drewN HB.out _⟩, ⟨Kd.C_drewN HC.out.1 _, Kd.C_drewN HC.out.2 _⟩⟩
          · have t3 : (r == u) = false := by simpa using hru
            have hru2 := Aside0.mk hru
            clear hru
            go_wp2_with (fail)
            go_quiet (fail)
            go_wp2
            go_meet
            case rel => exact ⟨pre, r :: x, u :: y, rfl, ⟨HP.out.1, HP.out.2, by rw [lcp_cons, if_neg hru2.out]⟩, ⟨pw_below_drewN HB.out _⟩, ⟨Kd.C_drewN HC.out.1 _, Kd.C_drewN HC.out.2 _⟩⟩
  case rest =>
    obtain ⟨pre, x, y, rfl, HP, HB, HC⟩ := hcut
    go_upto_block 2 with (fail)
    go_cut [11] (fun v11 wd => ∃ xx yy suf : List Int, v11 = .int .i64 (suf.length : Nat) ∧ Aside0 (x = xx ++ suf ∧ y = yy ++ suf ∧ lcs xx yy = 0) ∧ Aside0 (Below W0.heap.size W0 wd) ∧ Aside0 (Kd.C (Kd.int .i64) wd A1 rs.length rs ∧ Kd.C (Kd.int .i64) wd A2 us.length us))
    case first =>
      go_wp2_with (fail)
      go_loopg [11] (rs.length + 1) (fun gk v11 wr => ∃ xx yy suf : List Int, v11 = .int .i64 (suf.length : Nat) ∧ Aside0 (x = xx ++ suf ∧ y = yy ++ suf) ∧ Aside0 (xx.length < gk) ∧ Aside0 (Below W0.heap.size W0 wr) ∧ Aside0 (Kd.C (Kd.int .i64) wr A1 rs.length rs ∧ Kd.C (Kd.int .i64) wr A2 us.length us))
      case atStart =>
        refine ⟨x, y, [], rfl, ⟨by simp, by simp⟩, ⟨?_⟩, HB, HC⟩
        rw [HP.out.1, List.length_append]
        omega
      case round =>
        obtain ⟨xx, yy, suf, rfl, HQ, HG, HB, HC⟩ := hrel
        have e1 := congrArg List.length HP.out.1
        have e2 := congrArg List.length HP.out.2.1
        rw [List.length_append, HQ.out.1, List.length_append] at e1
        rw [List.length_append, HQ.out.2, List.length_append] at e2
        have hl1 := HL.out.1
        have hl2 := HL.out.2
        have hs := HS.out.1
        have ht := HS.out.2
        have i1 : IntKind.i64.wrap ((rs.length : Int) - (pre.length : Int)) = (rs.length : Int) - (pre.length : Int) := IntWalk.i64_in _ (by omega)
        have i2 : IntKind.i64.wrap ((us.length : Int) - (pre.length : Int)) = (us.length : Int) - (pre.length : Int) := IntWalk.i64_in _ (by omega)
        by_cases hx : xx = []
        · subst hx
          have t1 : decide ((suf.length : Int) < (rs.length : Int) - (pre.length : Int)) = false := by simp at e1; simp; omega
          clear e1 e2 hl1 hl2 hs ht i2
          go_wp2_with (fail)
          go_quiet (fail)
          go_wp2
          go_meet
          case rel => exact ⟨[], yy, suf, rfl, ⟨HQ.out.1, HQ.out.2, lcs_nil_left _⟩, ⟨pw_below_drewN HB.out _⟩, ⟨Kd.C_drewN HC.out.1 _, Kd.C_drewN HC.out.2 _⟩⟩
        obtain ⟨zx, r, rfl⟩ := snoc_of_ne xx hx
        clear hx
        rw [List.length_append, List.length_singleton] at e1
        have t1 : decide ((suf.length : Int) < (rs.length : Int) - (pre.length : Int)) = true := by simp; omega
        by_cases hy : yy = []
        · subst hy
          have t2 : decide ((suf.length : Int) < (us.length : Int) - (pre.length : Int)) = false := by simp at e2; simp; omega
          clear e1 e2 hl1 hl2 hs ht
          go_wp2_with (fail)
          go_quiet (fail)
          go_wp2
          go_meet
          case rel => exact ⟨zx ++ [r], [], suf, rfl, ⟨HQ.out.1, HQ.out.2, lcs_nil_right _⟩, ⟨pw_below_drewN HB.out _⟩, ⟨Kd.C_drewN HC.out.1 _, Kd.C_drewN HC.out.2 _⟩⟩
        obtain ⟨zy, u, rfl⟩ := snoc_of_ne yy hy
        clear hy
        rw [List.length_append, List.length_singleton] at e2
        have t2 : decide ((suf.length : Int) < (us.length : Int) - (pre.length : Int)) = true := by simp; omega
        have j1 : IntKind.i64.wrap ((rs.length : Int) - 1) = (rs.length : Int) - 1 := IntWalk.i64_in _ (by omega)
        have j2 : IntKind.i64.wrap ((us.length : Int) - 1) = (us.length : Int) - 1 := IntWalk.i64_in _ (by omega)
        obtain ⟨I1, hI1⟩ : ∃ I : Int, I = (rs.length : Int) - 1 - (suf.length : Int) := ⟨_, rfl⟩
        obtain ⟨I2, hI2⟩ : ∃ I : Int, I = (us.length : Int) - 1 - (suf.length : Int) := ⟨_, rfl⟩
        have k1 : IntKind.i64.wrap ((rs.length : Int) - 1 - (suf.length : Int)) = I1 := by rw [hI1]; exact IntWalk.i64_in _ (by omega)
        have k2 : IntKind.i64.wrap ((us.length : Int) - 1 - (suf.length : Int)) = I2 := by rw [hI2]; exact IntWalk.i64_in _ (by omega)
        have p1 : 0 ≤ I1 := by omega
        have p2 : 0 ≤ I2 := by omega
        have q1 : I1 < (rs.length : Int) := by omega
        have q2 : I2 < (us.length : Int) := by omega
        obtain ⟨ad1, g1, c1⟩ := Kd.at_int HC.out.1 _ p1 q1
        obtain ⟨ad2, g2, c2⟩ := Kd.at_int HC.out.2 _ p2 q2
        cases g1
        cases g2
        have d1 : rd rs I1 = r := by
          unfold rd
          rw [show I1.toNat = pre.length + zx.length by omega, HP.out.1, HQ.out.1]
          simp
        have d2 : rd us I2 = u := by
          unfold rd
          rw [show I2.toNat = pre.length + zy.length by omega, HP.out.2.1, HQ.out.2]
          simp
        clear hI1 hI2
        rw [d1] at c1
        rw [d2] at c2
        have hsb : (suf.length : Int) ≤ 100000 := by omega
        clear e1 e2 d1 d2 hl1 hl2 hs ht
        by_cases hru : r = u
        · subst hru
          have t3 : (r == r) = true := by simp
          go_wp2_with (fail)
          go_quiet (fail)
          clear i1 i2 j1 j2 k1 k2 p1 p2 q1 q2 c1 c2
          go_wp2
          obtain ⟨gk, rfl⟩ : ∃ g, gk = g + 1 := ⟨gk - 1, by have := HG.out; omega⟩
          go_roundg gk
          case measure => omega
          case rel => exact ⟨zx, zy, r :: suf, by rw [List.length_cons]; go_num, ⟨by simpa using HQ.out.1, by simpa using HQ.out.2⟩, ⟨by have := HG.out; simp at this; omega⟩, ⟨pw_below_drewN HB.out _⟩, ⟨Kd.C_drewN HC.out.1 _, Kd.C_drewN HC.out.2 _⟩⟩
        · have t3 : (r == u) = false := by simpa using hru
          have hru2 := Aside0.mk hru
          clear hru
          go_wp2_with (fail)
          go_quiet (fail)
          go_wp2
          go_meet
          case rel => exact ⟨zx ++ [r], zy ++ [u], suf, rfl, ⟨HQ.out.1, HQ.out.2, by rw [lcs_snoc, if_neg hru2.out]⟩, ⟨pw_below_drewN HB.out _⟩, ⟨Kd.C_drewN HC.out.1 _, Kd.C_drewN HC.out.2 _⟩⟩
    case rest =>
      obtain ⟨xx, yy, suf, rfl, HQ, HB, HC⟩ := hcut
      have e1 := congrArg List.length HP.out.1
      have e2 := congrArg List.length HP.out.2.1
      rw [List.length_append, HQ.out.1, List.length_append] at e1
      rw [List.length_append, HQ.out.2.1, List.length_append] at e2
      have hl1 := HL.out.1
      have hl2 := HL.out.2
      have hs := HS.out.1
      have ht := HS.out.2
      -- the texts
      obtain ⟨f1, f2⟩ := text_enc _ HD.out.1
      obtain ⟨f3, f4⟩ := text_enc _ HD.out.2
      rw [← HRS.out, HP.out.1, HQ.out.1] at f1 f2
      rw [← HUS.out, HP.out.2.1, HQ.out.2.1] at f3 f4
      have hb := betweenAns_of a0 a1 pre xx yy suf (by rw [← HRS.out, HP.out.1, HQ.out.1]) (by rw [← HUS.out, HP.out.2.1, HQ.out.2.1]) (by rw [← HQ.out.1, ← HQ.out.2.1]; exact HP.out.2.2) HQ.out.2.2
      rw [H.out] at hb
      simp only [Prod.mk.injEq, and_true] at hb
      obtain ⟨rfl, rfl, rfl, rfl, rfl⟩ := hb
      have P1 := F.refPlace_eq a0 ((enc pre).length : Int) (by omega) (a0.size + 50) (by omega)
      have P2 := F.refPlace_eq a0 ((enc (pre ++ xx)).length : Int) (by omega) (a0.size + 50) (by omega)
      rw [F.placeAns_front a0 pre (xx ++ suf) f2 f1] at P1
      rw [F.placeAns_front a0 (pre ++ xx) suf (by rw [List.append_assoc]; exact f2) (by rw [List.append_assoc]; exact f1)] at P2
      have T1 := F.refText_of pre (allR_append.1 f2).1 (by omega) 200000 (by omega)
      have T2 := F.refText_of (pre ++ xx) (by have := f2; rw [← List.append_assoc] at this; exact (allR_append.1 this).1) (by rw [List.length_append]; omega) 200000 (by rw [List.length_append]; omega)
      have T3 := F.refText_of yy (allR_append.1 (allR_append.1 f4).2).1 (by omega) 200000 (by omega)
      rw [show ((enc pre).length : Int) = ((ofL (enc pre)).size : Int) by rw [ofL_size]] at P1
      rw [show ((enc (pre ++ xx)).length : Int) = ((ofL (enc (pre ++ xx))).size : Int) by rw [ofL_size]] at P2
      -- the cuts
      obtain ⟨i0, hi, hz0, hz1, hz2⟩ := info_parts info3
      have n1 := HLL.out.1
      have n2 := HLL.out.2
      have c1 := cut_to (P := Tryd.prog) 55 3 .i64 Tryd.underlying55 hi A1 rs.length q1 ((pre.length : Nat) : Int) (by omega) (by omega) n1
      have c2 := cut_to (P := Tryd.prog) 55 3 .i64 Tryd.underlying55 hi A1 rs.length q1 ((rs.length : Int) - (suf.length : Int)) (by omega) (by omega) n1
      have c3 := cut_mid (P := Tryd.prog) 55 3 .i64 .i64 Tryd.underlying55 hi 1 hz1 A2 us.length q2 ((pre.length : Nat) : Int) ((us.length : Int) - (suf.length : Int)) (by omega) (by omega) (by omega) n2
      have k1 : Kd.C (Kd.int .i64) wc A1 pre.length pre := by
        have := Kd.C_take (m := pre.length) HC.out.1 (by omega)
        rwa [HP.out.1, List.take_left] at this
      have k2 : Kd.C (Kd.int .i64) wc A1 (pre ++ xx).length (pre ++ xx) := by
        have := Kd.C_take (m := (pre ++ xx).length) HC.out.1 (by rw [List.length_append]; omega)
        rwa [HP.out.1, HQ.out.1, ← List.append_assoc, List.take_left] at this
      have k3 : Kd.C (Kd.int .i64) wc (if q2 = pre.length then A2 else A2.map (·.add (pre.length * 1))) yy.length yy := by
        have h1 := Kd.C_take (m := pre.length + yy.length) HC.out.2 (by omega)
        have hcut : us.take (pre.length + yy.length) = pre ++ yy := by rw [HP.out.2.1, HQ.out.2.1, ← List.append_assoc, ← List.length_append, List.take_left]
        rw [hcut] at h1
        have h2 := Kd.C_drop (m := pre.length) (c := q2) h1 (by rw [List.length_append]; omega) (by rw [List.length_append]; omega)
        rwa [List.drop_left] at h2
      obtain ⟨N2, hN2⟩ : ∃ N, N = (pre ++ xx).length := ⟨_, rfl⟩
      rw [Int.toNat_natCast] at c1 c3
      rw [show ((rs.length : Int) - (suf.length : Int)).toNat = N2 by rw [hN2, List.length_append]; omega] at c2
      rw [← hN2] at k2
      obtain ⟨A3, hA3⟩ : ∃ A, A = (if q2 = pre.length then A2 else A2.map (·.add (pre.length * 1))) := ⟨_, rfl⟩
      rw [← hA3] at c3 k3
      obtain ⟨q3, hq3⟩ : ∃ q, q = q2 - pre.length := ⟨_, rfl⟩
      rw [← hq3, show ((us.length : Int) - (suf.length : Int)).toNat - pre.length = yy.length by omega] at c3
      have m1 : pre.length ≤ q1 := by omega
      have m2 : N2 ≤ q1 := by rw [hN2, List.length_append]; omega
      have m3 : yy.length ≤ q3 := by omega
      have HK := Aside0.mk (And.intro k1 (And.intro k2 k3))
      have HM := Aside0.mk (And.intro m1 (And.intro m2 m3))
      have HT1 := Aside0.mk T1
      have HT3 := Aside0.mk T3
      have HP1 := Aside0.mk P1
      have HP2 := Aside0.mk P2
      have HN2 := Aside0.mk hN2
      have HT2 := Aside0.mk T2
      have hsub : (0 : Int) ≤ (rs.length : Int) - (suf.length : Int) := by omega
      have hsub2 : (0 : Int) ≤ (us.length : Int) - (suf.length : Int) := by omega
      have hbr : (rs.length : Int) ≤ 1000000 := by omega
      have hbu : (us.length : Int) ≤ 1000000 := by omega
      have hbs : (suf.length : Int) ≤ 1000000 := by omega
      clear e1 e2 hl1 hl2 hs ht f1 f2 f3 f4 P1 P2 T1 T2 T3 hi hz0 hz1 hz2 n1 n2 k1 k2 k3 m1 m2 m3 hN2 hA3 hq3 H HP HQ HRS HUS HD
      go_wp2_with (fail)
      refine (parlanceref04_Text.calls 200000 A1 q1 pre _ _ _ HK.out.1 HM.out.1 HT1.out).mono ?_
      rintro e w3 ⟨rfl, hb3⟩
      have HB3 := Aside0.mk (HB.out.trans (hb3.mono HB.out.size))
      have HK3 := Aside0.mk (And.intro (Kd.C_below HK.out.2.1 hb3) (Kd.C_below HK.out.2.2 hb3))
      clear hb3
      go_wp2_with (fail)
      have hN := HN2.out
      subst hN
      refine (parlanceref04_Text.calls 200000 A1 q1 (pre ++ xx) _ _ _ HK3.out.1 HM.out.2.1 HT2.out).mono ?_
      rintro e w4 ⟨rfl, hb4⟩
      have HB4 := Aside0.mk (HB3.out.trans (hb4.mono HB3.out.size))
      have HK4 := Aside0.mk (Kd.C_below HK3.out.2 hb4)
      clear hb4 HN2
      go_wp2_with (fail)
      refine (parlanceref04_Text.calls 200000 A3 q3 yy _ _ _ HK4.out HM.out.2.2 HT3.out).mono ?_
      rintro e w5 ⟨rfl, hb5⟩
      have HB5 := Aside0.mk (HB4.out.trans (hb5.mono HB4.out.size))
      clear hb5
      have hr0 : w5.heap[w.heap.size]? = some (.cells #[.int .i64 0, .int .i64 0, .int .i64 0, .int .i64 0, .string ⟨#[]⟩] 31 (0, 0)) := (HB5.out.block _ (by have := HZ0.out; omega)).trans HC0.out
      have hn0 : Below w.heap.size w w5 := HB0.out.trans (HB5.out.mono HB0.out.size)
      have hlt : w.heap.size < w5.heap.size := (Array.getElem?_eq_some_iff.1 hr0).1
      have HN0 := Aside0.mk hn0
      have HR0 := Aside0.mk hr0
      have HLT := Aside0.mk hlt
      clear hr0 hn0 hlt c1 c2 c3 HK HK3 HK4 HM HT1 HT2 HT3 HB3 HB4 HB5 HCC HC HB HB2
      obtain ⟨D, hD⟩ : ∃ D, D = ofL (enc yy) := ⟨_, rfl⟩
      obtain ⟨F1, hF1⟩ : ∃ D, D = ofL (enc pre) := ⟨_, rfl⟩
      obtain ⟨F2, hF2⟩ : ∃ D, D = ofL (enc (pre ++ xx)) := ⟨_, rfl⟩
      rw [← hD, ← hF1, ← hF2]
      rw [← hF1] at HP1
      rw [← hF2] at HP2
      have HDD := Aside0.mk hD
      obtain ⟨s1, hs1⟩ : ∃ s, s = (((stepA (0, 0) pre).1 : Nat) : Int) := ⟨_, rfl⟩
      obtain ⟨s2, hs2⟩ : ∃ s, s = (((stepA (0, 0) pre).2 : Nat) : Int) := ⟨_, rfl⟩
      obtain ⟨s3, hs3⟩ : ∃ s, s = (((stepA (0, 0) (pre ++ xx)).1 : Nat) : Int) := ⟨_, rfl⟩
      obtain ⟨s4, hs4⟩ : ∃ s, s = (((stepA (0, 0) (pre ++ xx)).2 : Nat) : Int) := ⟨_, rfl⟩
      rw [← hs1, ← hs2] at HP1
      rw [← hs3, ← hs4] at HP2
      have HS1 := Aside0.mk hs1
      have HS2 := Aside0.mk hs2
      have HS3 := Aside0.mk hs3
      have HS4 := Aside0.mk hs4
      clear hD hF1 hF2 hs1 hs2 hs3 hs4
      go_wp2_with (fail)
      refine (parlanceref07_Place.calls (a0.size + 50) a0 _ s1 s2 0 _ HP1.out).mono ?_
      rintro e w8 ⟨rfl, hb8⟩
      have hx8 : w8.heap[w5.heap.size]? = some (.cells #[.int .i64 0, .int .i64 0, .int .i64 0, .int .i64 0, .string D] 31 (0, 0)) := (hb8.block _ (by simp)).trans (MapKept.heap_alloc w5 _).1
      have hy8 := (hb8.block w.heap.size (by have := HLT.out; simp; omega)).trans ((Below.heap_alloc w5 _ _ HLT.out).trans HR0.out)
      have hn8 : Below w.heap.size w w8 := below_step (below_alloc HN0.out _) hb8
      have g0 := cellAt hx8 0
      have g1 := cellAt hx8 1
      have f0 := freeAt hx8 0
      have f1 := freeAt hx8 1
      simp only [List.getElem?_toArray, List.getElem?_cons_zero, List.getElem?_cons_succ] at g0 g1
      have HX8 := Aside0.mk hx8
      have HY8 := Aside0.mk hy8
      have HN8 := Aside0.mk hn8
      clear hx8 hy8 hn8 hb8
      go_wp2_with (fail)
      have hx9 := heap_setCell_same _ _ 1 _ _ (.int .i64 s2) (heap_setCell_same _ _ 0 _ _ (.int .i64 s1) HX8.out)
      have hy9 := (heap_setCell_other (w8.setCell ⟨w5.heap.size, 0, none⟩ (.int .i64 s1)) ⟨w5.heap.size, 1, none⟩ w.heap.size (.int .i64 s2) (by have := HLT.out; simp; omega)).trans ((heap_setCell_other w8 ⟨w5.heap.size, 0, none⟩ w.heap.size (.int .i64 s1) (by have := HLT.out; simp; omega)).trans HY8.out)
      have hn9 : Below w.heap.size w ((w8.setCell ⟨w5.heap.size, 0, none⟩ (.int .i64 s1)).setCell ⟨w5.heap.size, 1, none⟩ (.int .i64 s2)) := (HN8.out.setCell (p := ⟨w5.heap.size, 0, none⟩) (by have := HLT.out; simp; omega) _).setCell (p := ⟨w5.heap.size, 1, none⟩) (by have := HLT.out; simp; omega) _
      simp only [List.setIfInBounds_toArray, List.set_cons_zero, List.set_cons_succ] at hx9
      generalize (w8.setCell ⟨w5.heap.size, 0, none⟩ (.int .i64 s1)).setCell ⟨w5.heap.size, 1, none⟩ (.int .i64 s2) = w9 at *
      refine (parlanceref07_Place.calls (a0.size + 50) a0 _ s3 s4 0 _ HP2.out).mono ?_
      rintro e w10 ⟨rfl, hb10⟩
      have hx10 := (hb10.block w5.heap.size (Array.getElem?_eq_some_iff.1 hx9).1).trans hx9
      have hy10 := (hb10.block w.heap.size (Array.getElem?_eq_some_iff.1 hy9).1).trans hy9
      have hn10 : Below w.heap.size w w10 := below_step hn9 hb10
      clear g0 g1 f0 f1 hb10 hx9 hy9 hn9
      have g0 := cellAt hx10 0
      have g1 := cellAt hx10 1
      have g2 := cellAt hx10 2
      have g3 := cellAt hx10 3
      have g4 := cellAt hx10 4
      have f2 := freeAt hx10 2
      have f3 := freeAt hx10 3
      simp only [List.getElem?_toArray, List.getElem?_cons_zero, List.getElem?_cons_succ] at g0 g1 g2 g3 g4
      have k0 := cellAt hy10 0
      have k1 := cellAt hy10 1
      have k2 := cellAt hy10 2
      have k3 := cellAt hy10 3
      have k4 := cellAt hy10 4
      have m0 := freeAt hy10 0
      have m1 := freeAt hy10 1
      have m2 := freeAt hy10 2
      have m3 := freeAt hy10 3
      have m4 := freeAt hy10 4
      simp only [List.getElem?_toArray, List.getElem?_cons_zero, List.getElem?_cons_succ] at k0 k1 k2 k3 k4
      have HX10 := Aside0.mk hx10
      have HY10 := Aside0.mk hy10
      have HN10 := Aside0.mk hn10
      have hne : ¬ w5.heap.size = w.heap.size := by have := HLT.out; omega
      have hne2 : ¬ w.heap.size = w5.heap.size := by have := HLT.out; omega
      have hu := Tryd.underlying31
      clear hx10 hy10 hn10
      go_wp2
      rw [← HS1.out, ← HS2.out, ← HS3.out, ← HS4.out, ← HDD.out]
      have z1 := (heap_setCell_other (w10.setCell ⟨w5.heap.size, 2, none⟩ (.int .i64 s3)) ⟨w5.heap.size, 3, none⟩ w.heap.size (.int .i64 s4) hne2).trans ((heap_setCell_other w10 ⟨w5.heap.size, 2, none⟩ w.heap.size (.int .i64 s3) hne2).trans HY10.out)
      have n1 : Below w.heap.size w ((w10.setCell ⟨w5.heap.size, 2, none⟩ (.int .i64 s3)).setCell ⟨w5.heap.size, 3, none⟩ (.int .i64 s4)) := (HN10.out.setCell (p := ⟨w5.heap.size, 2, none⟩) (by have := HLT.out; simp; omega) _).setCell (p := ⟨w5.heap.size, 3, none⟩) (by have := HLT.out; simp; omega) _
      have z6 := heap_setCell_same _ _ 4 _ _ (.string D) (heap_setCell_same _ _ 3 _ _ (.int .i64 s4) (heap_setCell_same _ _ 2 _ _ (.int .i64 s3) (heap_setCell_same _ _ 1 _ _ (.int .i64 s2) (heap_setCell_same _ _ 0 _ _ (.int .i64 s1) z1))))
      have n6 := ((((n1.setCell (p := ⟨w.heap.size, 0, none⟩) (Nat.le_refl _) (.int .i64 s1)).setCell (p := ⟨w.heap.size, 1, none⟩) (Nat.le_refl _) (.int .i64 s2)).setCell (p := ⟨w.heap.size, 2, none⟩) (Nat.le_refl _) (.int .i64 s3)).setCell (p := ⟨w.heap.size, 3, none⟩) (Nat.le_refl _) (.int .i64 s4)).setCell (p := ⟨w.heap.size, 4, none⟩) (Nat.le_refl _) (.string D)
      clear z1 n1 g0 g1 g2 g3 g4 f2 f3 k0 k1 k2 k3 k4 m0 m1 m2 m3 m4
      simp only [List.setIfInBounds_toArray, List.set_cons_zero, List.set_cons_succ] at z6
      generalize World.setCell _ ⟨w.heap.size, 4, none⟩ (.string D) = Wf at *
      have k0 := cellAt z6 0
      have k1 := cellAt z6 1
      have k2 := cellAt z6 2
      have k3 := cellAt z6 3
      have k4 := cellAt z6 4
      simp only [List.getElem?_toArray, List.getElem?_cons_zero, List.getElem?_cons_succ] at k0 k1 k2 k3 k4
      exact bodyPost_ret (v := .tuple #[.agg #[.int .i64 s1, .int .i64 s2, .int .i64 s3, .int .i64 s4, .string D], .int .i64 0]) (by simp [results, Tryd.f23, go_sem, k0, k1, k2, k3, k4]) rfl ⟨rfl, n6⟩
set_option maxHeartbeats 4000000 in
set_option maxRecDepth 100000 in
theorem GRefBetween.invalid (a0 a1 : ByteArray) (w : World) (hs : a0.size ≤ 100000) (ht : a1.size ≤ 100000) (hv : (validD a0.data.toList && validD a1.data.toList) = false) :
    Calls Tryd.prog 23 #[.string a0, .string a1] w fun e w' => e = .returned (.tuple #[.agg #[.int .i64 0, .int .i64 0, .int .i64 0, .int .i64 0, .string ⟨#[]⟩], .int .i64 40]) ∧ Below w.heap.size w w' := by
  have HV := Aside0.mk (fun (W : World) => GRefRunes.calls a0 (if validD a0.data.toList then runes a0.data.toList else []) (if validD a0.data.toList then 0 else 40) W (by unfold GRefRunes.f; rw [if_pos (by omega)]; split <;> rfl))
  have HV1 := Aside0.mk (fun (W : World) => GRefRunes.calls a1 (if validD a1.data.toList then runes a1.data.toList else []) (if validD a1.data.toList then 0 else 40) W (by unfold GRefRunes.f; rw [if_pos (by omega)]; split <;> rfl))
  obtain ⟨W0, hW0⟩ : ∃ W0, w.alloc (.cells #[.int .i64 0, .int .i64 0, .int .i64 0, .int .i64 0, .string ⟨#[]⟩] 31) = W0 := ⟨_, rfl⟩
  have b0 : Below w.heap.size w W0 := by rw [← hW0]; exact below_alloc (Below.refl _ w) _
  have c0 : W0.heap[w.heap.size]? = some (.cells #[.int .i64 0, .int .i64 0, .int .i64 0, .int .i64 0, .string ⟨#[]⟩] 31 (0, 0)) := by rw [← hW0]; exact (MapKept.heap_alloc w _).1
  have fin : ∀ (w1 : World), Below W0.heap.size W0 w1 → (w1.heap[w.heap.size]? = some (.cells #[.int .i64 0, .int .i64 0, .int .i64 0, .int .i64 0, .string ⟨#[]⟩] 31 (0, 0)) ∧ Below w.heap.size w w1) := fun w1 hb => ⟨(hb.block _ (Array.getElem?_eq_some_iff.1 c0).1).trans c0, b0.trans (hb.mono b0.size)⟩
  have HFIN := Aside0.mk fin
  have HB0 := Aside0.mk b0
  clear b0 c0 fin
  generalize hq0 : validD a0.data.toList = q0 at *
  generalize hq1 : validD a1.data.toList = q1 at *
  clear hq0 hq1
  have done : ∀ (w1 : World), Below W0.heap.size W0 w1 → ∃ w2, w2 = ((((w1.setCell ⟨w.heap.size, 0, none⟩ (.int .i64 0)).setCell ⟨w.heap.size, 1, none⟩ (.int .i64 0)).setCell ⟨w.heap.size, 2, none⟩ (.int .i64 0)).setCell ⟨w.heap.size, 3, none⟩ (.int .i64 0)).setCell ⟨w.heap.size, 4, none⟩ (.string ⟨#[]⟩) ∧ w2.heap[w.heap.size]? = some (.cells #[.int .i64 0, .int .i64 0, .int .i64 0, .int .i64 0, .string ⟨#[]⟩] 31 (0, 0)) ∧ Below w.heap.size w w2 := by
    intro w1 hb
    obtain ⟨z1, n1⟩ := HFIN.out w1 hb
    have z6 := heap_setCell_same _ _ 4 _ _ (.string ⟨#[]⟩) (heap_setCell_same _ _ 3 _ _ (.int .i64 0) (heap_setCell_same _ _ 2 _ _ (.int .i64 0) (heap_setCell_same _ _ 1 _ _ (.int .i64 0) (heap_setCell_same _ _ 0 _ _ (.int .i64 0) z1))))
    simp only [List.setIfInBounds_toArray, List.set_cons_zero, List.set_cons_succ] at z6
    exact ⟨_, rfl, z6, ((((n1.setCell (p := ⟨w.heap.size, 0, none⟩) (Nat.le_refl _) (.int .i64 0)).setCell (p := ⟨w.heap.size, 1, none⟩) (Nat.le_refl _) (.int .i64 0)).setCell (p := ⟨w.heap.size, 2, none⟩) (Nat.le_refl _) (.int .i64 0)).setCell (p := ⟨w.heap.size, 3, none⟩) (Nat.le_refl _) (.int .i64 0)).setCell (p := ⟨w.heap.size, 4, none⟩) (Nat.le_refl _) (.string ⟨#[]⟩)⟩
  have HDONE := Aside0.mk done
  clear done
  have hu := Tryd.underlying31
  have cells : ∀ (w1 : World), Below W0.heap.size W0 w1 → (w1.cell? ⟨w.heap.size, 0, none⟩ = some (.int .i64 0) ∧ w1.cell? ⟨w.heap.size, 1, none⟩ = some (.int .i64 0) ∧ w1.cell? ⟨w.heap.size, 2, none⟩ = some (.int .i64 0) ∧ w1.cell? ⟨w.heap.size, 3, none⟩ = some (.int .i64 0) ∧ w1.cell? ⟨w.heap.size, 4, none⟩ = some (.string ⟨#[]⟩)) ∧ ∀ i, w1.frozen? ⟨w.heap.size, i, none⟩ = false := by
    intro w1 hb
    obtain ⟨z1, n1⟩ := HFIN.out w1 hb
    exact ⟨⟨cellAt z1 0, cellAt z1 1, cellAt z1 2, cellAt z1 3, cellAt z1 4⟩, fun i => freeAt z1 i⟩
  have HCELLS := Aside0.mk cells
  clear cells
  generalize runes a0.data.toList = rs at *
  generalize runes a1.data.toList = us at *
  cases q0 with
  | false =>
    clear hv
    generalize hE : (if q1 = true then (0 : Int) else 40) = E at *
    clear hE
    generalize (if q1 = true then us else []) = us2 at *
    simp only [Bool.false_eq_true, if_false] at HV
    go_enter Tryd.func23, Tryd.ntmps23
    go_upto_region 1 with (fail)
    clear hW0
    go_wp2_with (first | (go_at_call_of 37 (Value.string a0); refine (HV.out _).mono ?_; rintro e w1 ⟨v1, rfl, hR, hb⟩; have HB1 := Aside0.mk hb; clear hb hR) | (go_at_call_of 37 (Value.string a1); refine (HV1.out _).mono ?_; rintro e w2 ⟨v2, rfl, hR, hb⟩; have HB2 := Aside0.mk (HB1.out.trans (hb.mono HB1.out.size)); obtain ⟨⟨k0, k1, k2, k3, k4⟩, m⟩ := HCELLS.out _ HB2.out; clear hb hR HB1))
    obtain ⟨w3, hw3, z, n⟩ := HDONE.out w2 HB2.out
    rw [← hw3]
    clear hw3 k0 k1 k2 k3 k4 m
    have k0 := cellAt z 0
    have k1 := cellAt z 1
    have k2 := cellAt z 2
    have k3 := cellAt z 3
    have k4 := cellAt z 4
    simp only [List.getElem?_toArray, List.getElem?_cons_zero, List.getElem?_cons_succ] at k0 k1 k2 k3 k4
    exact bodyPost_ret (v := .tuple #[.agg #[.int .i64 0, .int .i64 0, .int .i64 0, .int .i64 0, .string ⟨#[]⟩], .int .i64 40]) (by simp [results, Tryd.f23, go_sem, k0, k1, k2, k3, k4]) rfl ⟨rfl, n⟩
  | true =>
    rw [Bool.true_and] at hv
    subst hv
    simp only [Bool.false_eq_true, if_false] at HV1
    simp only [if_true] at HV
    go_enter Tryd.func23, Tryd.ntmps23
    go_upto_region 1 with (fail)
    clear hW0
    go_wp2_with (first | (go_at_call_of 37 (Value.string a0); refine (HV.out _).mono ?_; rintro e w1 ⟨v1, rfl, hR, hb⟩; have HB1 := Aside0.mk hb; clear hb hR) | (go_at_call_of 37 (Value.string a1); refine (HV1.out _).mono ?_; rintro e w2 ⟨v2, rfl, hR, hb⟩; have HB2 := Aside0.mk (HB1.out.trans (hb.mono HB1.out.size)); obtain ⟨⟨k0, k1, k2, k3, k4⟩, m⟩ := HCELLS.out _ HB2.out; clear hb hR HB1))
    obtain ⟨w3, hw3, z, n⟩ := HDONE.out w2 HB2.out
    rw [← hw3]
    clear hw3 k0 k1 k2 k3 k4 m
    have k0 := cellAt z 0
    have k1 := cellAt z 1
    have k2 := cellAt z 2
    have k3 := cellAt z 3
    have k4 := cellAt z 4
    simp only [List.getElem?_toArray, List.getElem?_cons_zero, List.getElem?_cons_succ] at k0 k1 k2 k3 k4
    exact bodyPost_ret (v := .tuple #[.agg #[.int .i64 0, .int .i64 0, .int .i64 0, .int .i64 0, .string ⟨#[]⟩], .int .i64 40]) (by simp [results, Tryd.f23, go_sem, k0, k1, k2, k3, k4]) rfl ⟨rfl, n⟩
def GRefBetween.f (a0 a1 : ByteArray) : Option (Int × Int × Int × Int × ByteArray × Int) := if a0.size ≤ 100000 ∧ a1.size ≤ 100000 then some (if (validD a0.data.toList && validD a1.data.toList) = true then betweenAns a0 a1 else (0, 0, 0, 0, ⟨#[]⟩, 40)) else none
theorem GRefBetween.calls (a0 a1 : ByteArray) (r1 r2 r3 r4 : Int) (r5 : ByteArray) (r6 : Int) (w : World) (h : GRefBetween.f a0 a1 = some (r1, r2, r3, r4, r5, r6)) :
    Calls Tryd.prog 23 #[.string a0, .string a1] w fun e w' => e = .returned (.tuple #[.agg #[.int .i64 r1, .int .i64 r2, .int .i64 r3, .int .i64 r4, .string r5], .int .i64 r6]) ∧ Below w.heap.size w w' := by
  unfold GRefBetween.f at h
  split at h
  case isFalse => cases h
  case isTrue hs =>
    by_cases hv : (validD a0.data.toList && validD a1.data.toList) = true
    · rw [if_pos hv, Option.some.injEq] at h
      have h6 := betweenAns_err a0 a1
      rw [h] at h6
      simp only at h6
      subst h6
      rw [Bool.and_eq_true] at hv
      exact GRefBetween.valid a0 a1 w hs.1 hs.2 hv.1 hv.2 r1 r2 r3 r4 r5 h
    · rw [if_neg hv, Option.some.injEq] at h
      simp only [Prod.mk.injEq] at h
      obtain ⟨rfl, rfl, rfl, rfl, rfl, rfl⟩ := h
      exact GRefBetween.invalid a0 a1 w hs.1 hs.2 (by simpa using hv)
end Go.Proofs.YtjffpcjbbehooaaDoor.G
