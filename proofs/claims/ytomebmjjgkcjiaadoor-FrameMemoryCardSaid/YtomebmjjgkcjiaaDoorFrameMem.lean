/-
  The law FrameMemory: its walk.
-/
import Derived.Test.YtomebmjjgkcjiaaDoorFrameRound
import Derived.Deep.CutBlock
import Derived.Deep.DeepCutAuto
set_option linter.unusedVariables false
namespace Go.Proofs.YtomebmjjgkcjiaaDoor.G
open Go.RowKit Go.Proofs.YtomebmjjgkcjiaaDoorW.PrintWords Go.Lib
theorem drop_C {W : World} {A : Option Addr} {l : List UInt8} {c : Nat} (h : Kd.C (Kd.int .u8) W A l.length (ints l)) (hc : l.length ≤ c) (m : Nat) (hm : m ≤ l.length) :
    ∃ A2, (∀ w : World, (Instr.slice 22 (.slice A l.length c) (some (.int .i64 m)) none none).run Tryd.prog w = .ok (.slice A2 (l.length - m) (c - m)) w) ∧ Kd.C (Kd.int .u8) W A2 (l.drop m).length (ints (l.drop m)) := by
  obtain ⟨_, ⟨A2, h1, h2, _⟩, _⟩ := cut_row A l c m hm hc (g := W.heap.size) h (fun a e h0 => by
    subst e
    have := Kd.C_lt h h0 (by decide)
    omega)
  exact ⟨A2, h1, h2⟩
theorem DecAt.keepX {w w' : World} {d : Nat} {rest : List UInt8} {e : Int} {A : Option Addr} {c : Nat} {X : Nat → Prop} (h : DecAt w d rest e A c) (hk : KeepX X w w') (hd : ¬ X d) (hA : ∀ a, A = some a → rest ≠ [] → ¬ X a.block) : DecAt w' d rest e A c := by
  refine ⟨(hk.block d h.lt hd).trans h.blk, ?_, h.cap, h.top, h.apart⟩
  by_cases hr : rest = []
  · subst hr
    exact ⟨rfl, by simp, fun h => absurd h (Nat.lt_irrefl 0)⟩
  · cases A with
    | none => exact absurd (Kd.C_max h.row) (by
        intro _
        have h2 := h.row.2.2 (List.length_pos_iff.2 hr)
        obtain ⟨ad, e, _⟩ := h2
        cases e)
    | some a =>
      have hna := hA a rfl hr
      refine Kd.C_of_reads (d := (0 : Int)) (h1 := fun _ => rfl) ?_
      obtain ⟨r1, r2, r3⟩ := Kd.reads_of_C (d := (0 : Int)) h.row
      refine ⟨r1, r2, fun hp => ?_⟩
      obtain ⟨ad, e, hc⟩ := r3 hp
      refine ⟨ad, e, fun j hj => ?_⟩
      have hcj := hc j hj
      have hb : (ad.add j).block = a.block := by
        cases e
        unfold Addr.add
        split <;> rfl
      have hlt := World.block_lt_of_cell? w _ hcj
      rw [← hcj]
      unfold World.cell?
      rw [hk.block _ hlt (by rw [hb]; exact hna)]
theorem own_reads' {w : World} {base n : Nat} {A : Option Addr} {c : Nat} {b : List UInt8} (h : OwnB w base (.slice A n c) (ints b)) (hn : b.length = n) : n ≤ c ∧ Kd.C (Kd.int .u8) w A n (ints b) := by
  subst hn
  exact own_reads h
theorem keep_chain {w6 wx : World} {v : Value} {lo : Nat} (hK : KeepX (fun j => v.ownBlock = some j) w6 wx) (hlo : ∀ j, v.ownBlock = some j → lo ≤ j) (n : Nat) (a : World) (h : Below n a w6) (hn : n ≤ lo) (hs : n ≤ w6.heap.size) : Below n a wx :=
  h.trans (hK.below hs (fun k hk e => by have := hlo k e; omega))
/-- A row of one's own that a loop goes over, storing into it. -/
def XorAt (w6 wx : World) (base : Nat) (v : Value) (k : Nat) : Prop := ∃ L : List Int, L.length = k ∧ OwnB wx base v L ∧ KeepX (fun j => v.ownBlock = some j) w6 wx
theorem XorAt.form {w6 wx : World} {base k c5 : Nat} {A5 : Option Addr} (h : XorAt w6 wx base (.slice A5 k c5) k) (hk : 0 < k) : ∃ g, A5 = some ⟨g, 0, none⟩ := by
  obtain ⟨L, hl, hO, _⟩ := h
  obtain ⟨g, cap, e, _⟩ := Kd.R_form hO (by omega)
  simp only [Value.slice.injEq] at e
  exact ⟨g, e.1⟩
theorem XorAt.step {w6 wx : World} {base k c5 g : Nat} (h : XorAt w6 wx base (.slice (some ⟨g, 0, none⟩) k c5) k) (i : Nat) (hi : i < k) :
    ∃ x, wx.cell? ⟨g, i, none⟩ = some (.int .u8 x) ∧ wx.frozen? ⟨g, i, none⟩ = false ∧ ∀ y : Int, XorAt w6 (wx.setCell ⟨g, i, none⟩ (.int .u8 y)) base (.slice (some ⟨g, 0, none⟩) k c5) k := by
  obtain ⟨L, hl, hO, hK⟩ := h
  obtain ⟨h1, h2⟩ := Kd.R_celln (0 : Int) hO (i : Int) (by omega) (by omega)
  rw [Int.toNat_natCast] at h1 h2
  refine ⟨_, h1, h2, fun y => ⟨L.set i y, by rw [List.length_set]; exact hl, ?_, hK.trans ?_⟩⟩
  · have := Kd.R_putn hO (i : Int) y
    rw [Int.toNat_natCast] at this
    exact this
  · have h := (Below.refl 0 wx).setCell (p := ⟨g, i, none⟩) (Nat.zero_le _) (.int .u8 y)
    exact ⟨h.os, h.tape, h.output, h.size, fun j _ hx => Below.heap_setCell wx ⟨g, i, none⟩ _ j (fun e => hx (by subst e; rfl))⟩
theorem XorAt.start {w6 w5 wx : World} {base k c5 : Nat} {A5 : Option Addr} {b : List UInt8} (hb : b.length = k) (h : OwnB w5 base (.slice A5 k c5) (ints b)) (hk : KeepX (fun j => False) w5 w6) : XorAt w6 w6 base (.slice A5 k c5) k :=
  ⟨ints b, by rw [ints_length]; exact hb, Kd.R_step h (fun j _ hlt => hk.block j hlt (fun h => h)), KeepX.refl _ _⟩
theorem rows_one {w : World} {base : Nat} {v : Value} {p : List Int} (h : OwnRows w base v [p]) : ∃ g c v', v = .slice (some ⟨g, 0, none⟩) 1 c ∧ w.cell? ⟨g, 0, none⟩ = some v' ∧ (Kd.int .u8).R 5 w base (fun k => k ≠ g) v' p ∧ base ≤ g ∧ g < w.heap.size := by
  obtain ⟨g, cap, rfl, hb, hlt, _⟩ := Kd.R_form h (by simp)
  obtain ⟨c, hcl, hM, hcell, _⟩ := Kd.R_elem h [] 0 (by omega) (by simp)
  obtain ⟨v', rfl, hR⟩ := hM
  refine ⟨g, cap, v', rfl, hcell 0 v' rfl, ?_, hb, hlt⟩
  exact Kd.R_mono hR (fun k hk => hk.2)
set_option maxHeartbeats 4000000 in
set_option maxRecDepth 100000 in
theorem memory_calls (A : Option Addr) (c : Nat) (b : List UInt8) (at_ : Int) (w : World) (hT : TF w) (hC : Kd.C (Kd.int .u8) w A b.length (ints b)) (hc : b.length ≤ c) (hat : -9223372036854775808 ≤ at_ ∧ at_ ≤ 9223372036854775807) :
    Calls Tryd.prog 4 #[.slice A b.length c, .int .i64 at_] w fun e w' => e = .returned (.bool true) ∧ Below w.heap.size w w' := by
  have HA := Aside0.mk (Alive_calls w hT)
  by_cases hbig : 65536 < b.length
  · have h1 : decide ((65536 : Int) < (b.length : Int)) = true := decide_eq_true (by omega)
    clear hbig hC hc hT hat
    go_enter Tryd.func4, Tryd.ntmps4
    go_wp2_with (go_at_call 9; refine HA.out.mono ?_; rintro e w1 ⟨rfl, hb⟩; have HB1 := Aside0.mk hb; clear hb)
    go_ret
    exact ⟨rfl, HB1.out⟩
  have h1 : decide ((65536 : Int) < (b.length : Int)) = false := decide_eq_false (by omega)
  have HT := Aside0.mk hT
  have HC := Aside0.mk (And.intro hC (And.intro hc hbig))
  have HAT := Aside0.mk hat
  have HEL := Aside0.mk (encL_len b (by omega))
  have HFF := Aside0.mk (fun k => feed_front b k (by omega))
  have HFE := Aside0.mk (show feedL (encL b) = ([b], [], 0) by
    have := feed_encs [b] [] (fun p hp => by rw [List.mem_singleton.1 hp]; omega)
    rw [feedL_nil, List.append_nil] at this
    simpa [encsL] using this)
  have HEN := Aside0.mk (fun (W : World) (A2 : Option Addr) (c2 : Nat) (hT : TF W) (hC : Kd.C (Kd.int .u8) W A2 b.length (ints b)) (hc : b.length ≤ c2) => Encode_calls A2 c2 b W hT hC hc (by omega))
  have hE : (encL b).length ≤ 70000 := by have := HEL.out.2; omega
  have hE0 : 0 < (encL b).length := by have := HEL.out.1; omega
  clear hbig hC hc hT hat
  generalize encL b = E at *
  obtain ⟨q, k, hkE, hk⟩ : ∃ (q : Bool) (k : Nat), k < E.length ∧ ((decide ((0 : Int) < at_) = true ∧ decide (at_ < (E.length : Int)) = true ∧ at_ = (k : Int) ∧ q = true) ∨ (k = 0 ∧ decide ((0 : Int) < at_) = false ∧ q = false) ∨ (k = 0 ∧ decide ((0 : Int) < at_) = true ∧ decide (at_ < (E.length : Int)) = false ∧ q = false)) := by
    by_cases q1 : 0 < at_
    · by_cases q2 : at_ < E.length
      · exact ⟨true, at_.toNat, by omega, .inl ⟨decide_eq_true q1, decide_eq_true q2, by omega, rfl⟩⟩
      · exact ⟨false, 0, hE0, .inr (.inr ⟨rfl, decide_eq_true q1, decide_eq_false q2, rfl⟩)⟩
    · exact ⟨false, 0, hE0, .inr (.inl ⟨rfl, decide_eq_false q1, rfl⟩)⟩
  have HF1 := Aside0.mk (HFF.out k hkE)
  have HFD := Aside0.mk (show feedL (E.take k ++ E.drop k) = ([b], [], 0) by rw [List.take_append_drop]; exact HFE.out)
  have HK := Aside0.mk hk
  clear hk HFF
  go_enter Tryd.func4, Tryd.ntmps4
  go_upto_region 10 with (first | (go_at_call 9; refine HA.out.mono ?_; rintro e w1 ⟨rfl, hb⟩; have HB1 := Aside0.mk hb; clear hb) | (go_at_call 14; refine (Copy_calls A c b _ (Kd.C_below HC.out.1 HB1.out) HC.out.2.1 (by have := HC.out.2.2; omega)).mono ?_; rintro e w2 ⟨A2, c2, rfl, hr2, hb2⟩; have H2 := Aside0.mk (own_reads hr2); have HB2 := Aside0.mk (below_step HB1.out hb2); clear hr2 hb2) | (go_at_call 11; refine (HEN.out w2 A2 c2 (TF_below HT.out HB2.out) H2.out.2 H2.out.1).mono ?_; rintro e w3 ⟨A3, c3, rfl, hO3, hb3⟩; have H3 := Aside0.mk (own_reads hO3); have HB3 := Aside0.mk (below_step HB2.out hb3); clear hO3 hb3) | (go_at_call 15; refine (New_calls w3).mono ?_; rintro e w4 ⟨rfl, hw4⟩; have HD4 := Aside0.mk (hw4 ▸ New_dec w3); have HB34 := Aside0.mk (hw4 ▸ (below_alloc (Below.refl w3.heap.size w3) (.cells #[.slice none 0 0, .int .i64 0] 48))); have Hsz4 := Aside0.mk (show w4.heap.size = w3.heap.size + 1 by rw [hw4, World.size_alloc]); clear hw4))
  go_cut [41] (fun v41 wc => v41 = .bool q ∧ wc = w4)
  case first =>
    rcases HK.out with ⟨q1, q2, hq, rfl⟩ | ⟨rfl, q1, rfl⟩ | ⟨rfl, q1, q2, rfl⟩
    · clear hq
      go_wp2_with (fail)
      go_meet
      case rel => exact ⟨rfl, rfl⟩
    · go_wp2_with (fail)
      go_meet
      case rel => exact ⟨rfl, rfl⟩
    · go_wp2_with (fail)
      go_meet
      case rel => exact ⟨rfl, rfl⟩
  case rest =>
    obtain ⟨rfl, rfl⟩ := hcut
    go_upto_if 41 with (fail)
    go_cut [8] (fun v8 wx => v8 = .int .i64 k ∧ wx = wc)
    case first =>
      rcases HK.out with ⟨q1, q2, hq, rfl⟩ | ⟨rfl, q1, rfl⟩ | ⟨rfl, q1, q2, rfl⟩
      · have HQ := Aside0.mk hq
        clear hq
        go_wp2_with (fail)
        go_meet
        case rel => exact ⟨by rw [HQ.out], rfl⟩
      · go_wp2_with (fail)
        go_meet
        case rel => exact ⟨rfl, rfl⟩
      · go_wp2_with (fail)
        go_meet
        case rel => exact ⟨rfl, rfl⟩
    case rest =>
      obtain ⟨rfl, rfl⟩ := hcut
      have hcut1 := cut_C A3 E c3 k (by omega) H3.out.1
      obtain ⟨A3d, hcut2, hC3d⟩ := drop_C H3.out.2 H3.out.1 k (by omega)
      have htl : (E.take k).length = k := by rw [List.length_take]; omega
      have hdl : (E.drop k).length = E.length - k := List.length_drop
      have hC3t := take_C H3.out.2 k (by omega)
      have H3d := Aside0.mk (And.intro hC3d (And.intro hC3t (And.intro htl hdl)))
      clear hC3d hC3t htl hdl
      have hkE' : k ≤ E.length := by omega
      go_wp2_with (fail)
      have hB4 : Below w.heap.size w wc := below_step HB3.out HB34.out
      have hcp := Copy_calls A3 c3 (E.take k) wc (Kd.C_below H3d.out.2.1 HB34.out) (by rw [H3d.out.2.2.1]; have := H3.out.1; omega) (by rw [H3d.out.2.2.1]; omega)
      rw [H3d.out.2.2.1] at hcp
      refine hcp.mono ?_
      rintro e w5 ⟨A5, c5, rfl, hr5, hb5⟩
      have hfd := fun hD hC hcb => Feed_calls w3.heap.size [] (E.take k) none A5 0 c5 w w5 HT.out (below_step hB4 hb5) HB3.out.size hD hC hcb (by rw [H3d.out.2.2.1]; simp; omega)
      rw [H3d.out.2.2.1, List.nil_append, HF1.out] at hfd
      have hor5 := own_reads' hr5 H3d.out.2.2.1
      have HFD5 := Aside0.mk (hfd (HD4.out.below hb5) hor5.2 hor5.1)
      have H5 := Aside0.mk (And.intro hr5 hb5)
      have HB4 := Aside0.mk hB4
      clear hcp hfd hr5 hb5 hor5 hB4
      go_wp2_with (fail)
      refine HFD5.out.mono ?_
      rintro e w6 ⟨v6, A6, c6, rfl, _, hD6, hA6, hK6⟩
      have HX6 := Aside0.mk (show XorAt w6 w6 wc.heap.size (.slice A5 k c5) k from by
        refine ⟨ints (E.take k), by rw [ints_length]; exact H3d.out.2.2.1, ?_, KeepX.refl _ _⟩
        refine Kd.R_mono (Kd.R_step (Kd.R_bound H5.out.1) (fun j hj hlt => hK6.block j hlt (fun e => ?_))) (fun _ h => trivial)
        have h1 := hj.2.1
        have h2 := Hsz4.out
        omega)
      have H6 := Aside0.mk (And.intro hD6 (And.intro hA6 hK6))
      clear hD6 hA6 hK6
      go_wp2_with (fail)
      go_loopg [10] (k + 1) (fun gk v10 wx => ∃ i : Nat, v10 = .int .i64 i ∧ Aside0 (i ≤ k ∧ k - i < gk) ∧ Aside0 (XorAt w6 wx wc.heap.size (.slice A5 k c5) k))
      case atStart => exact ⟨0, rfl, ⟨Nat.zero_le _, by omega⟩, HX6⟩
      case round =>
        obtain ⟨i, rfl, HI, HX⟩ := hrel
        by_cases hlt : i < k
        · have hltb : decide (i < k) = true := decide_eq_true hlt
          obtain ⟨g, rfl⟩ := HX.out.form (by omega)
          obtain ⟨x, hcell, hfr, hst⟩ := HX.out.step i hlt
          have HST := Aside0.mk hst
          clear hst
          go_wp2_with (fail)
          obtain ⟨G, rfl⟩ : ∃ G, gk = G + 1 := ⟨gk - 1, by have := HI.out; omega⟩
          go_roundg G
          case measure => omega
          case rel => exact ⟨i + 1, by go_num, ⟨by omega, by have := HI.out.2; omega⟩, ⟨HST.out _⟩⟩
        · obtain rfl : i = k := by have := HI.out.1; omega
          have hge : decide (i < i) = false := decide_eq_false (by omega)
          obtain ⟨_, _, _, hK⟩ := HX.out
          have hlo : ∀ j, (Value.slice A5 i c5).ownBlock = some j → wc.heap.size ≤ j := fun j e => Kd.R_base H5.out.1 j e
          have hhi : ∀ j, (Value.slice A5 i c5).ownBlock = some j → j < w5.heap.size := fun j e => Kd.R_lt H5.out.1 j e
          have hs4 := Hsz4.out
          have hs5 := H5.out.2.size
          have hs6 := H6.out.2.2.size
          have hD7 : DecAt wr w3.heap.size (E.take i) 0 A6 c6 := H6.out.1.keepX hK (fun e => by have := hlo _ e; omega) (fun a e _ e2 => by have h1 := hhi _ e2; have h2 := H6.out.2.1 a e; omega)
          have hB6 : Below w3.heap.size w3 w6 := (below_step HB34.out H5.out.2).trans (H6.out.2.2.below (by omega) (fun j hj e => by omega))
          have hB7 : Below w3.heap.size w3 wr := keep_chain hK hlo w3.heap.size w3 hB6 (by omega) (by omega)
          have hs7 := hK.size
          have H7 := Aside0.mk (And.intro hD7 (And.intro hB7 (show w3.heap.size < wr.heap.size by omega)))
          have hcp := Copy_calls A3d (c3 - i) (E.drop i) wr (Kd.C_below H3d.out.1 hB7) (by rw [H3d.out.2.2.2]; have := H3.out.1; omega) (by rw [H3d.out.2.2.2]; omega)
          rw [H3d.out.2.2.2] at hcp
          have HCP := Aside0.mk hcp
          clear hcp hK hlo hhi hs4 hs5 hs6 hD7 hB6 hB7 hs7 hlt HX6 HX
          go_wp2_with (fail)
          refine HCP.out.mono ?_
          rintro e w8 ⟨A8, c8, rfl, hr8, hb8⟩
          have hor8 := own_reads' hr8 H3d.out.2.2.2
          have hfd := Feed_calls w3.heap.size (E.take i) (E.drop i) A6 A8 c6 c8 w w8 HT.out (below_step HB3.out (below_step H7.out.2.1 hb8)) HB3.out.size (H7.out.1.below hb8) (by rw [H3d.out.2.2.2]; exact hor8.2) (by rw [H3d.out.2.2.2]; exact hor8.1) (by rw [H3d.out.2.2.2, H3d.out.2.2.1]; omega)
          rw [H3d.out.2.2.2, HFD.out] at hfd
          have HFD8 := Aside0.mk hfd
          have H8 := Aside0.mk (And.intro hr8 hb8)
          clear hfd hr8 hb8 hor8 HCP
          go_wp2_with (fail)
          refine HFD8.out.mono ?_
          rintro e w9 ⟨v9, A9, c9, rfl, hO9, hD9, hA9, hK9⟩
          obtain ⟨g9, c9x, v9', rfl, hc9, hR9, hg9, hgl9⟩ := rows_one hO9
          have hX9 : XorAt w9 w9 wr.heap.size (.slice A8 (E.length - i) c8) (E.length - i) := by
            refine ⟨ints (E.drop i), by rw [ints_length]; exact H3d.out.2.2.2, ?_, KeepX.refl _ _⟩
            refine Kd.R_mono (Kd.R_step (Kd.R_bound H8.out.1) (fun j hj hlt => hK9.block j hlt (fun e => ?_))) (fun _ h => trivial)
            have h1 := hj.2.1
            have h2 := H7.out.2.2
            omega
          have HX9 := Aside0.mk hX9
          have H9 := Aside0.mk (And.intro hO9 (And.intro hD9 (And.intro hA9 hK9)))
          have HR9 := Aside0.mk (And.intro hc9 (And.intro hR9 (And.intro hg9 hgl9)))
          clear hO9 hD9 hA9 hK9 hc9 hR9 hg9 hgl9 hX9 HFD8
          obtain ⟨w7, hw7⟩ : ∃ w7, w7 = wr := ⟨_, rfl⟩
          rw [← hw7] at H7 H8 HX9
          clear hw7
          go_wp2_with (fail)
          obtain ⟨n8, hn8⟩ : ∃ n8, n8 = E.length - i := ⟨_, rfl⟩
          rw [← hn8] at HX9 H8 ⊢
          have HN8 := Aside0.mk hn8
          clear hn8
          go_loopg [13] (n8 + 1) (fun gk v13 wx => ∃ j : Nat, v13 = .int .i64 j ∧ Aside0 (j ≤ n8 ∧ n8 - j < gk) ∧ Aside0 (XorAt w9 wx w7.heap.size (.slice A8 n8 c8) n8))
          case atStart => exact ⟨0, rfl, ⟨Nat.zero_le _, by omega⟩, HX9⟩
          case round =>
            obtain ⟨j, rfl, HJ, HX⟩ := hrel
            by_cases hlt : j < n8
            · have hltb : decide (j < n8) = true := decide_eq_true hlt
              obtain ⟨g, rfl⟩ := HX.out.form (by omega)
              obtain ⟨x, hcell, hfr, hst⟩ := HX.out.step j hlt
              have HST := Aside0.mk hst
              have hn8b : n8 ≤ 70000 := by have := HN8.out; omega
              clear hst
              go_wp2_with (fail)
              obtain ⟨G, rfl⟩ : ∃ G, gk = G + 1 := ⟨gk - 1, by have := HJ.out; omega⟩
              go_roundg G
              case measure => omega
              case rel => exact ⟨j + 1, by go_num, ⟨by omega, by have := HJ.out.2; omega⟩, ⟨HST.out _⟩⟩
            · obtain rfl : j = n8 := by have := HJ.out.1; omega
              have hge : decide (j < j) = false := decide_eq_false (by omega)
              obtain ⟨_, _, _, hK⟩ := HX.out
              have hlo : ∀ q, (Value.slice A8 j c8).ownBlock = some q → w7.heap.size ≤ q := fun q e => Kd.R_base H8.out.1 q e
              have hhi : ∀ q, (Value.slice A8 j c8).ownBlock = some q → q < w8.heap.size := fun q e => Kd.R_lt H8.out.1 q e
              have hs8 := H8.out.2.size
              have hs9 := H9.out.2.2.2.size
              have h37 := H7.out.2.2
              have hD10 : DecAt wr w3.heap.size [] 0 A9 c9 := H9.out.2.1.keepX hK (fun e => by have := hlo _ e; omega) (fun a e h => absurd rfl h)
              have hB9 : Below w3.heap.size w3 w9 := (below_step H7.out.2.1 H8.out.2).trans (H9.out.2.2.2.below (by omega) (fun j hj e => by omega))
              have hB10 : Below w3.heap.size w3 wr := keep_chain hK hlo w3.heap.size w3 hB9 (by omega) (by omega)
              have hs10 := hK.size
              have hmv : ∀ q, w8.heap.size ≤ q → q < w9.heap.size → wr.heap[q]? = w9.heap[q]? := fun q h1 h2 => hK.block q h2 (fun e => by have := hhi _ e; omega)
              have hO10 : OwnRows wr w8.heap.size (.slice (some ⟨g9, 0, none⟩) 1 c9x) ([b].map ints) := Kd.R_mono (Kd.R_step (Kd.R_bound H9.out.1) (fun q hq hlt => hmv q hq.2.1 hlt)) (fun _ _ => trivial)
              have H10 := Aside0.mk (And.intro hD10 (And.intro hB10 (And.intro hO10 (show w3.heap.size < w8.heap.size ∧ w8.heap.size ≤ wr.heap.size by omega))))
              clear hK hlo hhi hs8 hs9 h37 hD10 hB9 hB10 hs10 hmv hO10 hlt HX9 HX
              go_wp2_with (fail)
              have hb11 := below_alloc (Below.refl wr.heap.size wr) (.cells #[.slice A b.length c] 22)
              have hbw : Below w.heap.size w wr := below_step HB3.out H10.out.2.1
              have hrd := (Kd.R_reads' H10.out.2.2.1)
              refine (SameRows_calls (some ⟨g9, 0, none⟩) (some ⟨wr.heap.size, 0, none⟩) c9x 1 1 [b] _ rfl (Kd.C_below hrd.2.2 hb11) hrd.2.1 (C_row1 _ _ A c b (World.cell?_alloc_mark _ _ _ _ 0) HC.out.2.1 (Kd.C_below HC.out.1 (below_step hbw hb11))) (Nat.le_refl _) (fun l hl => by have := HC.out.2.2; rw [List.mem_singleton.1 hl]; omega) (by decide)).mono ?_
              rintro e w11 ⟨rfl, hb11'⟩
              have hbb := below_step hb11 hb11'
              obtain ⟨g9', c9y, v9'', e9, hc11, hR11, hg11, hgl11⟩ := rows_one (Kd.R_below H10.out.2.2.1 hbb)
              simp only [Value.slice.injEq, Option.some.injEq, Addr.mk.injEq, true_and, and_true] at e9
              obtain ⟨rfl, rfl⟩ := e9
              obtain ⟨Av, cv, rfl, hlv, _⟩ := Kd.R_reads hR11
              rw [ints_length] at hc11 hR11 hlv
              have hX11 : XorAt w11 w11 w8.heap.size (.slice Av b.length cv) b.length := ⟨ints b, ints_length b, Kd.R_mono hR11 (fun _ _ => trivial), KeepX.refl _ _⟩
              have hne : ∀ q, (Value.slice Av b.length cv).ownBlock = some q → q ≠ g9 ∧ w8.heap.size ≤ q := fun q e => ⟨hR11.1 q e, Kd.R_base hR11 q e⟩
              have H11 := Aside0.mk (And.intro (below_step H10.out.2.1 hbb) (And.intro (H10.out.1.below hbb) (And.intro hne (And.intro hc11 (And.intro hgl11 H10.out.2.2.2.1)))))
              have HX11 := Aside0.mk hX11
              have hb65 : b.length ≤ 65536 := by have := HC.out.2.2; omega
              clear hb11 hbw hrd hb11' hbb hR11 hg11 hgl11 hlv hX11 hne hge HR9 HN8
              go_wp2_with (fail)
              go_loopg [14] (b.length + 1) (fun gk v14 wx => ∃ j : Nat, v14 = .int .i64 j ∧ Aside0 (j ≤ b.length ∧ b.length - j < gk) ∧ Aside0 (XorAt w11 wx w8.heap.size (.slice Av b.length cv) b.length) ∧ wx.cell? ⟨g9, 0, none⟩ = some (.slice Av b.length cv))
              case atStart => exact ⟨0, rfl, ⟨Nat.zero_le _, by omega⟩, HX11, hc11⟩
              case round =>
                clear hc11
                obtain ⟨q, rfl, HJ3, HX3, hc3⟩ := hrel
                by_cases hlt : q < b.length
                · have hltb : decide (q < b.length) = true := decide_eq_true hlt
                  obtain ⟨g, rfl⟩ := HX3.out.form (by omega)
                  obtain ⟨x, hcell, hfr, hst⟩ := HX3.out.step q hlt
                  have HST := Aside0.mk hst
                  have HGN := Aside0.mk (H11.out.2.2.1 g rfl).1
                  clear hst
                  go_wp2_with (fail)
                  obtain ⟨G, rfl⟩ : ∃ G, gk = G + 1 := ⟨gk - 1, by have := HJ3.out; omega⟩
                  go_roundg G
                  case measure => omega
                  case rel =>
                    refine ⟨q + 1, by go_num, ⟨by omega, by have := HJ3.out.2; omega⟩, ⟨HST.out _⟩, ?_⟩
                    rw [World.cell?_setCell_other _ _ _ _ (fun e => HGN.out (congrArg Addr.block e))]
                    exact hc3
                · obtain rfl : q = b.length := by have := HJ3.out.1; omega
                  have hge3 : decide (b.length < b.length) = false := decide_eq_false (by omega)
                  obtain ⟨_, _, _, hK⟩ := HX3.out
                  have hd8 := H11.out.2.2.2.2.2
                  have hs11 := H11.out.1.size
                  have hD12 : DecAt wr w3.heap.size [] 0 A9 c9 := H11.out.2.1.keepX hK (fun e => by have := (H11.out.2.2.1 _ e).2; omega) (fun a e h => absurd rfl h)
                  have hB12 : Below w3.heap.size w3 wr := keep_chain hK (fun j e => (H11.out.2.2.1 j e).2) w3.heap.size w3 H11.out.1 (by omega) hs11
                  have hfd := Feed_calls w3.heap.size [] E A9 A3 c9 c3 w wr HT.out (below_step HB3.out hB12) HB3.out.size hD12 (Kd.C_below H3.out.2 hB12) H3.out.1 (by simp; omega)
                  rw [List.nil_append, HFE.out] at hfd
                  have HFD12 := Aside0.mk hfd
                  have HB12 := Aside0.mk (below_step HB3.out hB12)
                  clear hfd hK hd8 hs11 hD12 hB12 hlt
                  go_wp2_with (fail)
                  refine HFD12.out.mono ?_
                  rintro e w13 ⟨v13, A13, c13, rfl, hO13, hD13, hA13, hK13⟩
                  obtain ⟨Ay, cy, rfl, hly, hCy⟩ := Kd.R_reads hO13
                  have HB13 := Aside0.mk (show Below w.heap.size w w13 from HB12.out.trans (hK13.below HB12.out.size (fun j hj e => by have := HB3.out.size; omega)))
                  have H13 := Aside0.mk (And.intro hly hCy)
                  clear hO13 hD13 hA13 hK13 hly hCy
                  go_wp2_with (fail)
                  have hb14 := below_alloc (Below.refl w13.heap.size w13) (.cells #[.slice A b.length c] 22)
                  refine (SameRows_calls Ay (some ⟨w13.heap.size, 0, none⟩) cy 1 1 [b] _ rfl (Kd.C_below H13.out.2 hb14) H13.out.1 (C_row1 _ _ A c b (World.cell?_alloc_mark _ _ _ _ 0) HC.out.2.1 (Kd.C_below HC.out.1 (below_step HB13.out hb14))) (Nat.le_refl _) (fun l hl => by rw [List.mem_singleton.1 hl]; omega) (by decide)).mono ?_
                  rintro e w15 ⟨rfl, hb15⟩
                  have HB15 := Aside0.mk (below_step (below_step HB13.out hb14) hb15)
                  clear hb14 hb15
                  go_wp2_with (fail)
                  go_ret
                  exact ⟨rfl, HB15.out⟩
end Go.Proofs.YtomebmjjgkcjiaaDoor.G
