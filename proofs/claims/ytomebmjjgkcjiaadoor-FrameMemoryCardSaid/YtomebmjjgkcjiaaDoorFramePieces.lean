/-
  The law FramePieces: its walk.
-/
import Derived.Test.YtomebmjjgkcjiaaDoorFrameDead
set_option linter.unusedVariables false
namespace Go.Proofs.YtomebmjjgkcjiaaDoor.G
open Go.RowKit Go.Proofs.YtomebmjjgkcjiaaDoorW.PrintWords Go.Lib
/-- Rows that are read in W, none of them in block g. -/
def kdIn (W : World) (g : Nat) : Kd (List Int) where
  sz := 1
  E := []
  K := fun _ xs cs => ∃ A c, cs = [.slice A xs.length c] ∧ xs.length ≤ c ∧ (Kd.int .u8).C W A xs.length xs ∧ ∀ a, A = some a → 0 < xs.length → a.block ≠ g
  M := fun _ _ _ xs cs => ∃ A c, cs = [.slice A xs.length c] ∧ xs.length ≤ c ∧ (Kd.int .u8).C W A xs.length xs ∧ ∀ a, A = some a → 0 < xs.length → a.block ≠ g
  K_len := by
    rintro w x cs ⟨A, c, rfl, _⟩
    rfl
  K_one := by
    rintro w x cs ⟨A, c, rfl, _⟩ u hu
    rw [List.mem_singleton.1 hu]
    rfl
  K_below := fun _ h => h
  K_of_M := fun h => h
  M_mono := fun _ h => h
  M_bound := fun h => h
  M_move := fun _ h => h
  M_lower := fun _ h => h
theorem kdIn_read {W w : World} {g : Nat} (hk : KeepX (fun i => i = g) W w) {A : Option Addr} {n : Nat} {L : List (List Int)} (h : (kdIn W g).C w A n L) : Kd.C (Kd.slice 5 (Kd.int .u8)) w A n L := by
  refine h.imp_ (Below.refl _ _) (fun x cs hp => ?_)
  obtain ⟨A, c, rfl, hl, hC, hg⟩ := hp
  exact ⟨A, c, rfl, hl, Kd.C_keep (0 : Int) hC ⟨hk.size, fun i hi hx _ => hk.block i hi hx⟩ hg⟩
theorem C_row1' {W : World} {g : Nat} {A : Option Addr} {c : Nat} {l : List UInt8} (hc : W.cell? ⟨g, 0, none⟩ = some (.slice A l.length c)) (hl : l.length ≤ c) (hC : Kd.C (Kd.int .u8) W A l.length (ints l)) : Kd.C (Kd.slice 5 (Kd.int .u8)) W (some ⟨g, 0, none⟩) [l].length ([l].map ints) := C_row1 W g A c l hc hl hC
theorem and255 (x : Int) : 0 ≤ bits BinOp.and IntKind.i64 x 255 ∧ bits BinOp.and IntKind.i64 x 255 ≤ 255 := by
  have h : (BitVec.ofInt 64 x &&& BitVec.ofInt 64 255).toNat ≤ 255 := by
    rw [BitVec.toNat_and]
    exact Nat.le_trans Nat.and_le_right (by decide)
  show 0 ≤ IntKind.i64.wrap ((BitVec.ofInt 64 x &&& BitVec.ofInt 64 255).toNat : Int) ∧ IntKind.i64.wrap ((BitVec.ofInt 64 x &&& BitVec.ofInt 64 255).toNat : Int) ≤ 255
  rw [IntKind.wrap_i64]
  omega
theorem cut_row (Ar : Option Addr) (r : List UInt8) (cr m : Nat) (hm : m ≤ r.length) (hr : r.length ≤ cr) {W : World} {g : Nat} (hC : Kd.C (Kd.int .u8) W Ar r.length (ints r)) (hg : ∀ a, Ar = some a → 0 < r.length → a.block ≠ g) :
    (∀ w : World, (Instr.slice 22 (.slice Ar r.length cr) none (some (.int .i64 m)) none).run Tryd.prog w = .ok (.slice Ar m cr) w) ∧
    (∃ Ar2, (∀ w : World, (Instr.slice 22 (.slice Ar r.length cr) (some (.int .i64 m)) none none).run Tryd.prog w = .ok (.slice Ar2 (r.length - m) (cr - m)) w) ∧ Kd.C (Kd.int .u8) W Ar2 (r.drop m).length (ints (r.drop m)) ∧ ∀ a, Ar2 = some a → 0 < (r.drop m).length → a.block ≠ g) ∧
    (kdIn W g).M W 0 (fun _ => False) (ints (r.take m)) [.slice Ar m cr] := by
  obtain ⟨i0, hi, hz0, hz1, hz2⟩ := info_parts info8
  have hl : (ints (r.take m)).length = m := by rw [ints_length, List.length_take]; omega
  refine ⟨fun w => ?_, ⟨if cr = m then Ar else Ar.map (·.add (m * 1)), fun w => ?_, ?_, ?_⟩, ⟨Ar, cr, by rw [hl], by omega, ?_, ?_⟩⟩
  · have := cut_to (P := Tryd.prog) 22 5 .i64 Tryd.underlying22 hi Ar r.length cr (m : Int) (by omega) (by omega) hr w
    simpa using this
  · have := cut_from (P := Tryd.prog) 22 5 .i64 Tryd.underlying22 hi 1 hz1 Ar r.length cr (m : Int) (by omega) (by omega) w
    simpa using this
  · have := Kd.C_drop (m := m) (c := cr) (show Kd.C (Kd.int .u8) W Ar (ints r).length (ints r) by rw [ints_length]; exact hC) (by rw [ints_length]; exact hm) (by rw [ints_length]; exact hr)
    rw [← ints_drop, ints_length] at this
    exact this
  · intro a ha h0
    rw [List.length_drop] at h0
    rw [if_neg (by omega)] at ha
    cases Ar with
    | none => cases ha
    | some a0 =>
      simp only [Option.map_some, Option.some.injEq] at ha
      subst ha
      have := hg a0 rfl (by omega)
      unfold Addr.add
      split <;> exact this
  · have := take_C hC m hm
    rw [ints_length]
    exact this
  · intro a ha h0
    rw [hl] at h0
    exact hg a ha (by omega)
/-- One piece told. -/
theorem all_one (g : Nat) (A : Option Addr) (c : Nat) (l : List UInt8) (w : World) (hT : TF w) (hc : w.cell? ⟨g, 0, none⟩ = some (.slice A l.length c)) (hl : l.length ≤ c) (hC : Kd.C (Kd.int .u8) w A l.length (ints l)) (hmax : l.length < 4000000000) :
    Calls Tryd.prog 18 #[.slice (some ⟨g, 0, none⟩) 1 1] w fun e w' => ∃ Av cv, e = .returned (.tuple #[.slice Av (feedL l).1.length cv, .int .i64 (feedL l).2.2, .int .i64 ((feedL l).2.1.length : Nat)]) ∧ (feedL l).1.length ≤ cv ∧ Kd.C (Kd.slice 5 (Kd.int .u8)) w' Av (feedL l).1.length ((feedL l).1.map ints) ∧ Below w.heap.size w w' := by
  refine (all_calls (some ⟨g, 0, none⟩) 1 [l] w hT (C_row1' hc hl hC) (Nat.le_refl _) (by simpa using hmax) (show 1 < 1000000000 by decide)).mono ?_
  rintro e w' ⟨v, rfl, hr, hb⟩
  have e1 : [l].flatten = l := by simp
  rw [e1] at hr
  obtain ⟨Av, cv, rfl, h1, h2⟩ := Kd.R_reads hr
  rw [List.length_map] at h1 h2 ⊢
  exact ⟨Av, cv, by rw [e1], h1, h2, hb⟩
theorem pieces_keep {w w1 w3 wr w5 : World} {v v5 : Value} {L L5 : List (List Int)} (HB : Aside0 (Below w.heap.size w wr ∧ KeepX (fun k => k = w1.heap.size) w3 wr)) (HP : Aside0 ((kdIn w3 w1.heap.size).R 22 wr w1.heap.size (fun k => k = w1.heap.size ∨ w3.heap.size ≤ k) v L))
    (H5 : Aside0 ((kdIn w3 w1.heap.size).R 22 w5 w1.heap.size (fun k => k = w1.heap.size ∨ w3.heap.size ≤ k) v5 L5 ∧ wr.grownBy w5 v.ownBlock ∧ (v5.ownBlock = v.ownBlock ∨ ∃ b, v5.ownBlock = some b ∧ wr.heap.size ≤ b))) (HG3 : Aside0 (w1.heap.size < w3.heap.size)) (HB1 : Aside0 (Below w.heap.size w w1)) :
    Aside0 (Below w.heap.size w w5 ∧ KeepX (fun k => k = w1.heap.size) w3 w5) := by
  obtain ⟨h1, h2⟩ := HB.out
  obtain ⟨_, hg, _⟩ := H5.out
  have hb := HB1.out.size
  refine ⟨h1.grown hg h1.size (fun k e => by have := Kd.R_base HP.out k e; omega), ⟨hg.os.trans h2.os, hg.tape.trans h2.tape, hg.output.trans h2.output, Nat.le_trans h2.size hg.size, fun k hk hx => ?_⟩⟩
  refine (hg.block k (Nat.lt_of_lt_of_le hk h2.size) (fun e => ?_)).trans (h2.block k hk hx)
  rcases HP.out.1 k e.symm with e2 | e2
  · exact hx e2
  · omega
set_option maxHeartbeats 4000000 in
set_option maxRecDepth 100000 in
theorem pieces_calls (A A' : Option Addr) (c c' : Nat) (b : List UInt8) (L : List Int) (w : World) (hT : TF w) (hC : Kd.C (Kd.int .u8) w A b.length (ints b)) (hc : b.length ≤ c) (hC' : Kd.C (Kd.int .i64) w A' L.length L) (hc' : L.length ≤ c') (hmax : b.length ≤ 140737488355328) (hmax' : L.length ≤ 140737488355328) :
    Calls Tryd.prog 5 #[.slice A b.length c, .slice A' L.length c'] w fun e w' => e = .returned (.bool true) ∧ Below w.heap.size w w' := by
  have HA := Aside0.mk (Alive_calls w hT)
  by_cases hbig : 100000 < b.length
  · have h1 : decide ((100000 : Int) < (b.length : Int)) = true := decide_eq_true (by omega)
    clear hbig hC hc hT hC' hc'
    go_enter Tryd.func5, Tryd.ntmps5
    go_wp2_with (go_at_call 9; refine HA.out.mono ?_; rintro e w1 ⟨rfl, hb⟩; have HB1 := Aside0.mk hb; clear hb)
    go_ret
    exact ⟨rfl, HB1.out⟩
  · have h1 : decide ((100000 : Int) < (b.length : Int)) = false := decide_eq_false (by omega)
    by_cases hbig2 : 100 < L.length
    · have h2 : decide ((100 : Int) < (L.length : Int)) = true := decide_eq_true (by omega)
      clear hbig hC hc hT hC' hc'
      go_enter Tryd.func5, Tryd.ntmps5
      go_wp2_with (go_at_call 9; refine HA.out.mono ?_; rintro e w1 ⟨rfl, hb⟩; have HB1 := Aside0.mk hb; clear hb)
      go_ret
      exact ⟨rfl, HB1.out⟩
    · have h2 : decide ((100 : Int) < (L.length : Int)) = false := decide_eq_false (by omega)
      have HT := Aside0.mk hT
      have HC := Aside0.mk (And.intro hC hc)
      have HC' := Aside0.mk (And.intro hC' hc')
      have HL := Aside0.mk (And.intro hbig hbig2)
      have hL100 : L.length ≤ 100 := by omega
      clear hbig hbig2 hC hc hT hC' hc' hmax hmax'
      go_enter Tryd.func5, Tryd.ntmps5
      go_wp2_with (first | (go_at_call 9; refine HA.out.mono ?_; rintro e w1 ⟨rfl, hb⟩; have HB1 := Aside0.mk hb; clear hb) | (go_at_call 14; refine (Copy_calls A c b _ (Kd.C_below HC.out.1 (below_alloc HB1.out _)) HC.out.2 (by have := HL.out; omega)).mono ?_; rintro e w3 ⟨A3, c3, rfl, hr3, hb3⟩; have H3 := Aside0.mk (And.intro hr3 hb3); clear hr3 hb3))
      obtain ⟨hr3, hb3⟩ := H3.out
      have hg : ∀ a, A3 = some a → 0 < b.length → a.block ≠ w1.heap.size := by
        rintro a rfl _ e
        have := Kd.R_base hr3 a.block rfl
        rw [World.size_alloc] at this
        omega
      have HG := Aside0.mk hg
      have H30 := Aside0.mk (And.intro (own_reads hr3) (Kd.C_max (own_reads hr3).2))
      have HB3 := Aside0.mk (below_step (below_alloc HB1.out _) hb3)
      have HP0 := Aside0.mk (show (kdIn w3 w1.heap.size).R 22 w3 w1.heap.size (fun _ => True) (.slice (some ⟨w1.heap.size, 0, none⟩) 0 0) (([] : List (List UInt8)).map ints) from by
        have h := R_empty (kdIn w3 w1.heap.size) 22 w1.heap.size w1 (Nat.le_refl _)
        exact Kd.R_below h hb3)
      have HG3 := Aside0.mk (show w1.heap.size < w3.heap.size by have := hb3.size; rw [World.size_alloc] at this; omega)
      clear hr3 hb3 hg H3
      go_loopg [5, 6, 7, 8] (L.length + 1) (fun gk v5 v6 v7 _ wx => ∃ (i : Nat) (P : List (List UInt8)) (r : List UInt8) (Ar : Option Addr) (cr : Nat), v7 = .int .i64 i ∧ v6 = .slice Ar r.length cr ∧ Aside0 (P.flatten ++ r = b ∧ P.length = i ∧ i ≤ L.length ∧ L.length - i < gk) ∧ Aside0 (r.length ≤ cr ∧ Kd.C (Kd.int .u8) w3 Ar r.length (ints r) ∧ ∀ a, Ar = some a → 0 < r.length → a.block ≠ w1.heap.size) ∧ Aside0 ((kdIn w3 w1.heap.size).R 22 wx w1.heap.size (fun k => k = w1.heap.size ∨ w3.heap.size ≤ k) v5 (P.map ints)) ∧ Aside0 (Below w.heap.size w wx ∧ KeepX (fun k => k = w1.heap.size) w3 wx))
      case atStart =>
        refine ⟨0, [], b, A3, c3, rfl, rfl, ⟨by simp, rfl, Nat.zero_le _, by omega⟩, ⟨H30.out.1.1, H30.out.1.2, HG.out⟩, ⟨fun k hk => .inl ?_, HP0.out.2⟩, ⟨HB3.out, KeepX.of_below (Below.refl _ _)⟩⟩
        simp only [Value.ownBlock, Option.some.injEq] at hk
        exact hk.symm
      case round =>
        obtain ⟨i, P, r, Ar, cr, rfl, rfl, HI, HR, HP, HB⟩ := hrel
        have HPL := Aside0.mk (show ∀ k, u5.ownBlock = some k → k < wr.heap.size from Kd.R_lt HP.out)
        by_cases hlt : i < L.length
        · obtain ⟨ad, rfl, hcells⟩ := (Kd.reads_of_C (d := (0 : Int)) (Kd.C_below HC'.out.1 HB.out.1)).2.2 (by omega)
          have hcell := hcells i hlt
          clear hcells
          generalize L.getD i 0 = x at *
          have hand := and255 x
          have hlb : decide ((i : Int) < (L.length : Int)) = true := decide_eq_true (by omega)
          obtain ⟨B, hB⟩ : ∃ B, bits BinOp.and IntKind.i64 x 255 = B := ⟨_, rfl⟩
          rw [hB] at hand
          obtain ⟨Bn, rfl⟩ : ∃ Bn : Nat, B = (Bn : Int) := ⟨B.toNat, by omega⟩
          clear hand
          by_cases hq : r.length < Bn
          · have hqb : decide (r.length < Bn) = true := decide_eq_true hq
            obtain ⟨c1, ⟨Ar2, c2, hC2, hg2⟩, hM⟩ := cut_row Ar r cr r.length (Nat.le_refl _) HR.out.1 HR.out.2.1 HR.out.2.2
            have HN := Aside0.mk (And.intro hC2 (And.intro hg2 hM))
            clear hC2 hg2 hM hq
            go_wp2_with (at_builtin; refine Kd.R_append (kdIn w3 w1.heap.size) (w0 := wr) w1.heap.size rfl (.tmp 45) (.tmp 49) 32 22 (.slice none 0 0) 24 rfl Tryd.underlying32 info22 rfl Nat.one_pos (by decide) u5 (P.map ints) (ints (r.take (r.length))) [.slice Ar (r.length) cr] (fun k => k = w1.heap.size ∨ w3.heap.size ≤ k) (fun _ => False) rfl rfl HN.out.2.2 (fun _ h => h.elim) ?aF HP.out ?aB ?aS ?aL ?_; (case aF => exact fun k hk => .inr (Nat.le_trans HB.out.2.size hk)); (case aB => exact Below.refl _ _); (case aS => have := HB1.out.size; have := HB.out.2.size; have := HG3.out; omega); (case aL => have := HI.out.2.1; have := HL.out.2; simp; omega); intro v5 w5 hr5 hb5 hg5 ht5; have H5 := Aside0.mk (And.intro hr5 (And.intro hg5 ht5)); clear hr5 hb5 hg5 ht5)
            obtain ⟨G, rfl⟩ : ∃ G, gk = G + 1 := ⟨gk - 1, by have := HI.out; omega⟩
            go_roundg G
            case measure => omega
            case rel =>
              refine ⟨i + 1, P ++ [r.take r.length], r.drop r.length, Ar2, cr - r.length, by go_num, by simp, ⟨?_, ?_, by omega, by have := HI.out.2.2.2; omega⟩, ⟨?_, HN.out.1, HN.out.2.1⟩, ⟨?_⟩, ?_⟩
              · rw [List.flatten_append, List.append_assoc]
                simp only [List.flatten_cons, List.flatten_nil, List.append_nil, List.take_append_drop]
                exact HI.out.1
              · rw [List.length_append, HI.out.2.1]; rfl
              · rw [List.length_drop]; have := HR.out.1; omega
              · rw [List.map_append]; exact H5.out.1
              · exact pieces_keep HB HP H5 HG3 HB1
          · have hqb : decide (r.length < Bn) = false := decide_eq_false hq
            obtain ⟨c1, ⟨Ar2, c2, hC2, hg2⟩, hM⟩ := cut_row Ar r cr Bn (by omega) HR.out.1 HR.out.2.1 HR.out.2.2
            have HN := Aside0.mk (And.intro hC2 (And.intro hg2 hM))
            have HQ := Aside0.mk hq
            clear hC2 hg2 hM hq
            go_wp2_with (at_builtin; refine Kd.R_append (kdIn w3 w1.heap.size) (w0 := wr) w1.heap.size rfl (.tmp 45) (.tmp 49) 32 22 (.slice none 0 0) 24 rfl Tryd.underlying32 info22 rfl Nat.one_pos (by decide) u5 (P.map ints) (ints (r.take Bn)) [.slice Ar Bn cr] (fun k => k = w1.heap.size ∨ w3.heap.size ≤ k) (fun _ => False) rfl rfl HN.out.2.2 (fun _ h => h.elim) ?aF HP.out ?aB ?aS ?aL ?_; (case aF => exact fun k hk => .inr (Nat.le_trans HB.out.2.size hk)); (case aB => exact Below.refl _ _); (case aS => have := HB1.out.size; have := HB.out.2.size; have := HG3.out; omega); (case aL => have := HI.out.2.1; have := HL.out.2; simp; omega); intro v5 w5 hr5 hb5 hg5 ht5; have H5 := Aside0.mk (And.intro hr5 (And.intro hg5 ht5)); clear hr5 hb5 hg5 ht5)
            obtain ⟨G, rfl⟩ : ∃ G, gk = G + 1 := ⟨gk - 1, by have := HI.out; omega⟩
            go_roundg G
            case measure => omega
            case rel =>
              refine ⟨i + 1, P ++ [r.take Bn], r.drop Bn, Ar2, cr - Bn, by go_num, by simp, ⟨?_, ?_, by omega, by have := HI.out.2.2.2; omega⟩, ⟨?_, HN.out.1, HN.out.2.1⟩, ⟨?_⟩, ?_⟩
              · rw [List.flatten_append, List.append_assoc]
                simp only [List.flatten_cons, List.flatten_nil, List.append_nil, List.take_append_drop]
                exact HI.out.1
              · rw [List.length_append, HI.out.2.1]; rfl
              · rw [List.length_drop]; have := HR.out.1; omega
              · rw [List.map_append]; exact H5.out.1
              · exact pieces_keep HB HP H5 HG3 HB1
        · have hlb : decide ((i : Int) < (L.length : Int)) = false := decide_eq_false (by omega)
          go_wp2_with (at_builtin; refine Kd.R_append (kdIn w3 w1.heap.size) (w0 := wr) w1.heap.size rfl (.tmp 54) (.tmp 56) 32 22 (.slice none 0 0) 24 rfl Tryd.underlying32 info22 rfl Nat.one_pos (by decide) u5 (P.map ints) (ints r) [.slice Ar r.length cr] (fun k => k = w1.heap.size ∨ w3.heap.size ≤ k) (fun _ => False) rfl rfl ?aP (fun _ h => h.elim) ?aF HP.out ?aB ?aS ?aL ?_; (case aP => exact ⟨Ar, cr, by rw [ints_length], by rw [ints_length]; exact HR.out.1, by rw [ints_length]; exact HR.out.2.1, by rw [ints_length]; exact HR.out.2.2⟩); (case aF => exact fun k hk => .inr (Nat.le_trans HB.out.2.size hk)); (case aB => exact Below.refl _ _); (case aS => have := HB1.out.size; have := HB.out.2.size; have := HG3.out; omega); (case aL => have := HI.out.2.1; have := HL.out.2; have := HI.out.2.2.1; simp; omega); intro v5 w5 hr5 hb5 hg5 ht5; have H5 := Aside0.mk (And.intro hr5 (And.intro hg5 ht5)); clear hr5 hb5 hg5 ht5)
          obtain ⟨Ap, cp, rfl, hlp, hCp⟩ := Kd.R_reads H5.out.1
          have HK5 := pieces_keep HB HP H5 HG3 HB1
          have hfl : (P ++ [r]).flatten = b := by rw [List.flatten_append]; simpa using HI.out.1
          have hPl : (P ++ [r]).length = i + 1 := by rw [List.length_append, HI.out.2.1]; rfl
          have hCp2 := kdIn_read HK5.out.2 hCp
          have e1 : P.map ints ++ [ints r] = (P ++ [r]).map ints := by rw [List.map_append]; rfl
          rw [e1, List.length_map] at hCp2
          have e2 : (P.map ints ++ [ints r]).length = (P ++ [r]).length := by rw [e1, List.length_map]
          rw [e2] at hlp ⊢
          have hall := all_calls Ap cp (P ++ [r]) w5 (TF_below HT.out HK5.out.1) hCp2 hlp (by rw [hfl]; have := HL.out.1; omega) (by rw [hPl]; have := HI.out.2.2.1; have := HL.out.2; omega)
          rw [hfl] at hall
          refine hall.mono ?_
          rintro e w6 ⟨v6, rfl, hr6, hb6⟩
          obtain ⟨A6, c6, rfl, hl6, hC6⟩ := Kd.R_reads hr6
          rw [List.length_map] at hl6 hC6 ⊢
          have H6 := Aside0.mk (And.intro hl6 hC6)
          have HB6 := Aside0.mk (below_step HK5.out.1 hb6)
          have HFL := Aside0.mk (feedL_len _ b (Nat.lt_succ_self _))
          clear hlp hCp hCp2 e1 e2 hall hr6 hb6 hl6 hC6 hfl hPl
          go_wp2_with (fail)
          have hb7 : Below w.heap.size w (w6.alloc (.cells #[.slice A b.length c] 22)) := below_alloc HB6.out _
          refine (all_one w6.heap.size A c b _ (TF_below HT.out hb7) (World.cell?_alloc_mark _ _ _ _ 0) HC.out.2 (Kd.C_below HC.out.1 hb7) (by have := HL.out.1; omega)).mono ?_
          rintro e w8 ⟨A8, c8, rfl, hl8, hC8, hb8⟩
          have H8 := Aside0.mk (And.intro hl8 hC8)
          have HB8 := Aside0.mk (And.intro (below_step hb7 hb8) (below_step (below_alloc (Below.refl w6.heap.size w6) (.cells #[.slice A b.length c] 22)) hb8))
          clear hb7 hl8 hC8 hb8
          have HSZ := Aside0.mk (feedL_each _ b (Nat.lt_succ_self _))
          generalize feedL b = S at *
          obtain ⟨o, q, e0⟩ := S
          go_wp2_with (fail)
          have hol : ∀ l ∈ o, l.length < 140737488355328 := fun l hl => by have := HSZ.out l hl; have := HL.out.1; omega
          refine (SameRows_calls A6 A8 c6 c8 o.length o w8 rfl (Kd.C_below H6.out.2 HB8.out.2) H6.out.1 H8.out.2 H8.out.1 hol (by have := HFL.out.2.1; have := HL.out.1; omega)).mono ?_
          rintro e w9 ⟨rfl, hb9⟩
          have HB9 := Aside0.mk (below_step HB8.out.1 hb9)
          clear hol hb9
          go_wp2_with (fail)
          go_ret
          exact ⟨rfl, HB9.out⟩
end Go.Proofs.YtomebmjjgkcjiaaDoor.G
