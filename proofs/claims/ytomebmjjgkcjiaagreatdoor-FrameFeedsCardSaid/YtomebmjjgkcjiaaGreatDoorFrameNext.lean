/-
  (*frame.Decoder).next: its contract.
-/
import Derived.Test.YtomebmjjgkcjiaaGreatDoorFrameHead
import Derived.Test.YtomebmjjgkcjiaaGreatDoorFrameLength
import Derived.RegionTactic
import Derived.BigRegion
import Derived.ChangeAlike
import Derived.Deep.RegionLaw
set_option linter.unusedVariables false
namespace Go.Proofs.YtomebmjjgkcjiaaGreatDoor.G
open Go.RowKit Go.Proofs.YtomebmjjgkcjiaaGreatDoorW.PrintWords Go.Lib
/-- A decoder's block: what is held, and the error that it is dead of. -/
structure DecAt (w : World) (d : Nat) (rest : List UInt8) (e : Int) (A : Option Addr) (c : Nat) : Prop where
  blk : w.heap[d]? = some (.cells #[.slice A rest.length c, .int .i64 e] 42 (0, 0))
  row : Kd.C (Kd.int .u8) w A rest.length (ints rest)
  cap : rest.length ≤ c
  top : c ≤ 9223372036854775807
  apart : ∀ a, A = some a → a.block ≠ d
theorem DecAt.cell0 {w : World} {d : Nat} {rest : List UInt8} {e : Int} {A : Option Addr} {c : Nat} (h : DecAt w d rest e A c) : w.cell? ⟨d, 0, none⟩ = some (.slice A rest.length c) := by
  simp [World.cell?, h.blk]
theorem DecAt.cell1 {w : World} {d : Nat} {rest : List UInt8} {e : Int} {A : Option Addr} {c : Nat} (h : DecAt w d rest e A c) : w.cell? ⟨d, 1, none⟩ = some (.int .i64 e) := by
  simp [World.cell?, h.blk]
theorem DecAt.lt {w : World} {d : Nat} {rest : List UInt8} {e : Int} {A : Option Addr} {c : Nat} (h : DecAt w d rest e A c) : d < w.heap.size := (Array.getElem?_eq_some_iff.1 h.blk).1
theorem DecAt.below {w w' : World} {d : Nat} {rest : List UInt8} {e : Int} {A : Option Addr} {c : Nat} (h : DecAt w d rest e A c) (hb : Below w.heap.size w w') : DecAt w' d rest e A c :=
  ⟨(hb.block _ h.lt).trans h.blk, Kd.C_below h.row hb, h.cap, h.top, h.apart⟩
/-- What next does with what is held: a body or none; what is held then; the error. -/
def nextL (r : List UInt8) : Option (List UInt8) × List UInt8 × Int :=
  if (headOf r).1 = 0 ∨ (headOf r).2 ≠ 0 then (none, r, (headOf r).2) else
  if (lenOf (r.take (headOf r).1.toNat)).2 ≠ 0 ∨ (r.length : Int) < (headOf r).1 + (lenOf (r.take (headOf r).1.toNat)).1 then (none, r, (lenOf (r.take (headOf r).1.toNat)).2) else
  (some ((r.drop (headOf r).1.toNat).take (lenOf (r.take (headOf r).1.toNat)).1.toNat), r.drop ((headOf r).1.toNat + (lenOf (r.take (headOf r).1.toNat)).1.toNat), 0)
theorem headOf_range (l : List UInt8) : 0 ≤ (headOf l).1 ∧ (headOf l).1 ≤ l.length ∧ (headOf l).1 ≤ 1024 := by
  have h : 0 ≤ headN (l.take 1024) ∧ headN (l.take 1024) ≤ (l.take 1024).length := by
    unfold headN
    split
    · rename_i h
      refine ⟨by decide, ?_⟩
      have : ([13, 10] : List UInt8).isPrefixOf (l.take 1024) = true := h
      have := (List.isPrefixOf_iff_prefix.1 this).length_le
      simp at this ⊢
      omega
    · split
      · have h1 := index_room (l.take 1024) ends (by assumption)
        have h2 : (ends.length : Int) = 4 := rfl
        omega
      · omega
  rw [List.length_take] at h
  unfold headOf
  split
  · simp
  · simp only; omega
theorem lenGo_range : ∀ (xs : List (List UInt8)) (f g : Int), lenGo f xs = some g → -1 ≤ f → f < 1000000 → -1 ≤ g ∧ g < 1000000
  | [], f, g, h, h1, h2 => by
    simp only [lenGo, Option.some.injEq] at h
    omega
  | x :: xs, f, g, h, h1, h2 => by
    simp only [lenGo] at h
    cases hx : lenStep f x with
    | none => rw [hx] at h; cases h
    | some k =>
      rw [hx] at h
      have : -1 ≤ k ∧ k < 1000000 := by
        unfold lenStep at hx
        split at hx
        · cases hx
        · split at hx
          · cases hx; exact ⟨h1, h2⟩
          · cases hn : numV (fieldL x).2.1 with
            | none => rw [hn] at hx; cases hx
            | some n =>
              rw [hn] at hx
              simp only at hx
              split at hx
              · cases hx
              · cases hx
                have := numV_bound _ _ hn
                omega
      exact lenGo_range xs k g h this.1 this.2
theorem lenOf_range (l : List UInt8) : 0 ≤ (lenOf l).1 ∧ (lenOf l).1 ≤ 65536 := by
  unfold lenOf
  split
  · simp
  · split
    · simp
    · split
      · simp
      · simp only; omega
theorem conv_ints {P : Program} {W : World} {A : Option Addr} {l : List UInt8} (h : Kd.C (Kd.int .u8) W A l.length (ints l)) (hn : 0 < l.length) (hs : P.underlying 27 = some (.slice 5)) (he : P.underlying 5 = some (.int .u8)) (hd : P.underlying 9 = some .string) (cap : Nat) :
    (convert 27 9 (.slice A l.length cap)).run P W = .ok (.string (ofL l)) W := by
  obtain ⟨a, rfl, hc⟩ := (Kd.reads_of_C (d := (0 : Int)) h).2.2 hn
  refine run_convert_bytes_back (P := P) W 27 9 5 a cap l hs he hd (fun j hj => ?_)
  rw [hc j hj]
  simp [ints, List.getD_eq_getElem?_getD, List.getElem?_map, List.getElem?_eq_getElem hj]
theorem take_C {W : World} {A : Option Addr} {l : List UInt8} (h : Kd.C (Kd.int .u8) W A l.length (ints l)) (n : Nat) (hn : n ≤ l.length) : Kd.C (Kd.int .u8) W A (l.take n).length (ints (l.take n)) := by
  have := Kd.C_take (m := n) (by rw [ints_length]; exact h) (by rw [ints_length]; exact hn)
  rw [← ints_take, ints_length] at this
  exact this
set_option maxHeartbeats 4000000 in
set_option maxRecDepth 100000 in
theorem next_none (d : Nat) (rest : List UInt8) (A : Option Addr) (c : Nat) (w : World) (hT : TF w) (hD : DecAt w d rest 0 A c) (hl : rest.length < 4294967281) (hn : (nextL rest).1 = none) :
    Calls Tryz.prog 17 #[.pointer (some ⟨d, 0, none⟩)] w fun e w' => e = .returned (.tuple #[.slice none 0 0, .int .i64 (nextL rest).2.2]) ∧ Below w.heap.size w w' := by
  have h1 := Aside0.mk (Head_calls A c rest w hT hD.row hD.cap hl hD.top)
  have hr := headOf_range rest
  have hcell := hD.cell0
  unfold nextL at hn ⊢
  generalize hh : headOf rest = hd at *
  obtain ⟨n, e⟩ := hd
  simp only at h1 hr hn ⊢
  by_cases c1 : n = 0 ∨ e ≠ 0
  · rw [if_pos c1]
    clear hn hT hD hh hr hl
    by_cases c2 : n = 0
    · subst c2
      go_enter Tryz.func17, Tryz.ntmps17
      go_wp2_with (go_at_call 22; refine h1.out.mono ?_; rintro e1 w1 ⟨rfl, hb⟩; have HB1 := Aside0.mk hb; clear hb)
      go_ret2
      exact ⟨rfl, HB1.out⟩
    · have c3 : ¬ e = 0 := by rcases c1 with h | h; exact absurd h c2; exact h
      have c4 : (e != 0) = true := by simpa using c3
      have c5 : (n == 0) = false := by simpa using c2
      clear c1
      go_enter Tryz.func17, Tryz.ntmps17
      go_wp2_with (go_at_call 22; refine h1.out.mono ?_; rintro e1 w1 ⟨rfl, hb⟩; have HB1 := Aside0.mk hb; clear hb)
      go_ret2
      exact ⟨rfl, HB1.out⟩
  · rw [if_neg c1] at hn ⊢
    have c2 : ¬ n = 0 := fun h => c1 (.inl h)
    have c3 : e = 0 := by
      by_cases h : e = 0
      · exact h
      · exact absurd (.inr h) c1
    subst c3
    clear c1
    obtain ⟨m, rfl⟩ : ∃ m : Nat, n = (m : Int) := ⟨n.toNat, by omega⟩
    simp only [Int.toNat_natCast] at hn ⊢
    have hml : m ≤ rest.length := by omega
    have hm0 : 0 < m := by omega
    have htl : (rest.take m).length = m := by rw [List.length_take]; omega
    have HCV := Aside0.mk (fun (W : World) (hb : Below w.heap.size w W) => conv_ints (P := Tryz.prog) (Kd.C_below (take_C hD.row m hml) hb) (by omega) Tryz.underlying27 Tryz.underlying5 Tryz.underlying9)
    have HLN := Aside0.mk (fun (W : World) (hb : Below w.heap.size w W) => Length_calls (ofL (rest.take m)) W (TF_below hT hb) (by rw [ofL_size]; omega))
    rw [htl] at HCV
    simp only [ofL_data] at HLN
    have hlr := lenOf_range (rest.take m)
    have hcap := hD.cap
    have htop := hD.top
    clear hh hr hT hD htl
    generalize ofL (rest.take m) = S at *
    generalize lenOf (rest.take m) = L at *
    obtain ⟨l, e2⟩ := L
    simp only at hn HLN hlr ⊢
    by_cases c4 : e2 ≠ 0 ∨ (rest.length : Int) < (m : Int) + l
    · rw [if_pos c4]
      have c5 : ¬ ((m : Int) = 0) := by omega
      have c6 : ((m : Int) == 0) = false := by simpa using c5
      have hmc : (m : Int) ≤ (c : Int) := by omega
      have hw : wrap64 ((m : Int) + l) = (m : Int) + l := by unfold wrap64; omega
      clear hn
      by_cases c7 : e2 = 0
      · subst c7
        have c8 : (rest.length : Int) < (m : Int) + l := by
          rcases c4 with h | h
          · exact absurd rfl h
          · exact h
        clear c4
        go_enter Tryz.func17, Tryz.ntmps17
        go_wp2_with (first | (go_at_call 22; refine h1.out.mono ?_; rintro e1 w1 ⟨rfl, hb⟩; have HB1 := Aside0.mk hb; have hcell2 := (hb.cell (World.block_lt_of_cell? w _ hcell)).trans hcell; have hcv := HCV.out w1 hb; clear hb) | (go_at_call 23; refine (HLN.out _ HB1.out).mono ?_; rintro e2 w2 ⟨rfl, hb⟩; have HB2 := Aside0.mk (below_step HB1.out hb); have hcell3 := (hb.cell (World.block_lt_of_cell? _ _ hcell2)).trans hcell2; clear hb))
        go_ret2
        exact ⟨rfl, HB2.out⟩
      · have c8 : (e2 != 0) = true := by simpa using c7
        clear c4
        go_enter Tryz.func17, Tryz.ntmps17
        go_wp2_with (first | (go_at_call 22; refine h1.out.mono ?_; rintro e1 w1 ⟨rfl, hb⟩; have HB1 := Aside0.mk hb; have hcell2 := (hb.cell (World.block_lt_of_cell? w _ hcell)).trans hcell; have hcv := HCV.out w1 hb; clear hb) | (go_at_call 23; refine (HLN.out _ HB1.out).mono ?_; rintro e2 w2 ⟨rfl, hb⟩; have HB2 := Aside0.mk (below_step HB1.out hb); have hcell3 := (hb.cell (World.block_lt_of_cell? _ _ hcell2)).trans hcell2; clear hb))
        go_ret2
        exact ⟨rfl, HB2.out⟩
    · rw [if_neg c4] at hn
      cases hn
theorem cellB {w : World} {g : Nat} {cs : Array Value} {t : TypeId} {fr : Nat × Nat} (h : w.heap[g]? = some (.cells cs t fr)) (i : Nat) : w.cell? ⟨g, i, none⟩ = cs[i]? := by simp [World.cell?, h]
theorem frozenB {w : World} {g : Nat} {cs : Array Value} {t : TypeId} (h : w.heap[g]? = some (.cells cs t (0, 0))) (i : Nat) : w.frozen? ⟨g, i, none⟩ = false := by simp [World.frozen?, h]
theorem cell_alloc_old {W : World} {a : Addr} {v : Value} {o : Obj} (h : W.cell? a = some v) : (W.alloc o).cell? a = some v := (World.cell?_alloc_lt _ _ _ (World.block_lt_of_cell? _ _ h)).trans h
set_option maxHeartbeats 4000000 in
set_option maxRecDepth 100000 in
theorem next_some (d : Nat) (rest : List UInt8) (A : Option Addr) (c : Nat) (w : World) (hT : TF w) (hD : DecAt w d rest 0 A c) (hl : rest.length < 4294967281) (body rest2 : List UInt8) (z : Int) (hn : nextL rest = (some body, rest2, z)) :
    Calls Tryz.prog 17 #[.pointer (some ⟨d, 0, none⟩)] w fun e w' => ∃ g k A' c', e = .returned (.tuple #[.slice (some ⟨g, 0, none⟩) body.length k, .int .i64 0]) ∧ OwnB w' w.heap.size (.slice (some ⟨g, 0, none⟩) body.length k) (ints body) ∧ DecAt w' d rest2 0 A' c' ∧ (∀ a', A' = some a' → ∃ a, A = some a ∧ a'.block = a.block) ∧ KeepX (fun i => i = d) w w' := by
  have h1 := Aside0.mk (Head_calls A c rest w hT hD.row hD.cap hl hD.top)
  have hr := headOf_range rest
  have hcell := hD.cell0
  unfold nextL at hn
  generalize hh : headOf rest = hd at *
  obtain ⟨n, e⟩ := hd
  simp only at h1 hr hn
  by_cases c1 : n = 0 ∨ e ≠ 0
  · rw [if_pos c1] at hn
    cases hn
  rw [if_neg c1] at hn
  have c2 : ¬ n = 0 := fun h => c1 (.inl h)
  have c3 : e = 0 := by
    by_cases h : e = 0
    · exact h
    · exact absurd (.inr h) c1
  subst c3
  clear c1
  obtain ⟨m, rfl⟩ : ∃ m : Nat, n = (m : Int) := ⟨n.toNat, by omega⟩
  simp only [Int.toNat_natCast] at hn
  have hml : m ≤ rest.length := by omega
  have hm0 : 0 < m := by omega
  have htl : (rest.take m).length = m := by rw [List.length_take]; omega
  have HCV := Aside0.mk (fun (W : World) (hb : Below w.heap.size w W) => conv_ints (P := Tryz.prog) (Kd.C_below (take_C hD.row m hml) hb) (by omega) Tryz.underlying27 Tryz.underlying5 Tryz.underlying9)
  have HLN := Aside0.mk (fun (W : World) (hb : Below w.heap.size w W) => Length_calls (ofL (rest.take m)) W (TF_below hT hb) (by rw [ofL_size]; omega))
  rw [htl] at HCV
  simp only [ofL_data] at HLN
  have hlr := lenOf_range (rest.take m)
  have hcap := hD.cap
  have htop := hD.top
  have HD := Aside0.mk hD
  clear hh hr hT hD htl
  generalize ofL (rest.take m) = S at *
  generalize lenOf (rest.take m) = L at *
  obtain ⟨l, e2⟩ := L
  simp only at hn HLN hlr
  by_cases c4 : e2 ≠ 0 ∨ (rest.length : Int) < (m : Int) + l
  · rw [if_pos c4] at hn
    cases hn
  rw [if_neg c4] at hn
  have c7 : e2 = 0 := by
    by_cases h : e2 = 0
    · exact h
    · exact absurd (.inl h) c4
  subst c7
  have c8 : ¬ ((rest.length : Int) < (m : Int) + l) := fun h => c4 (.inr h)
  clear c4
  obtain ⟨k, rfl⟩ : ∃ k : Nat, l = (k : Int) := ⟨l.toNat, by omega⟩
  simp only [Int.toNat_natCast, Prod.mk.injEq, Option.some.injEq] at hn
  obtain ⟨rfl, rfl, rfl⟩ := hn
  have c5 : ¬ ((m : Int) = 0) := by omega
  have c6 : ((m : Int) == 0) = false := by simpa using c5
  have hmc : (m : Int) ≤ (c : Int) := by omega
  have hw : wrap64 ((m : Int) + k) = ((m + k : Nat) : Int) := by unfold wrap64; omega
  have hmk : ((m + k : Nat) : Int) ≤ (c : Int) := by omega
  have hmk1 : (m : Int) ≤ ((m + k : Nat) : Int) := by omega
  have hmk0 : (0 : Int) ≤ ((m + k : Nat) : Int) := by omega
  have hk0 : (0 : Int) ≤ (k : Int) := by omega
  have hk1 : (k : Int) ≤ 65536 := hlr.2
  go_enter Tryz.func17, Tryz.ntmps17
  go_wp2_with (first | (go_at_call 22; refine h1.out.mono ?_; rintro e1 w1 ⟨rfl, hb⟩; have HB1 := Aside0.mk hb; have hcell2 := (hb.cell (World.block_lt_of_cell? w _ hcell)).trans hcell; have hcv := HCV.out w1 hb; clear hb) | (go_at_call 23; refine (HLN.out _ HB1.out).mono ?_; rintro e2 w2 ⟨rfl, hb⟩; have HB2 := Aside0.mk (below_step HB1.out hb); have hcell3 := (hb.cell (World.block_lt_of_cell? _ _ hcell2)).trans hcell2; clear hb))
  clear hcell hcell2 hcv HLN h1 HB1 HCV
  obtain ⟨a0, rfl, hcells⟩ := (Kd.reads_of_C (d := (0 : Int)) HD.out.row).2.2 (by omega)
  have hs0 : (0 : Int) ≤ (m : Int) + (k : Int) := by omega
  have hs1 : (m : Int) + (k : Int) ≤ (c : Int) := by omega
  have hs2 : ((m : Int) + (k : Int)).toNat = m + k := by omega
  obtain ⟨a1, ha1⟩ : ∃ a1, (if c = m then some a0 else some (a0.add m)) = some a1 := by
    split
    · exact ⟨_, rfl⟩
    · exact ⟨_, rfl⟩
  have hal : ∀ o : Obj, (w2.alloc o).cell? ⟨d, 0, none⟩ = some (.slice (some a0) rest.length c) := fun o => cell_alloc_old hcell3
  clear hcells
  have hmake : ∀ W : World, (Instr.makeSlice 27 (.int .i64 0) (.int .i64 (k : Int))).run Tryz.prog W = .ok (.slice (some ⟨W.heap.size, 0, none⟩) 0 k) (W.alloc (.cells (madeCells #[.int .u8 0] k) 5)) := by
    intro W
    obtain ⟨i0, hi, hz0, hz1, hz2⟩ := info_parts info8
    have := run_make (P := Tryz.prog) (w := W) 27 5 i0 (.int .u8 0) Tryz.underlying27 hi hz0 .i64 .i64 0 (k : Int) (by omega) hk0 (by rw [hz2]; omega) (by omega)
    rw [hz1, Nat.mul_one] at this
    exact this
  have hZs := size_madeCells #[Value.int .u8 0] k
  generalize madeCells #[Value.int .u8 0] k = Z at *
  have hdl : d < w2.heap.size := World.block_lt_of_cell? _ _ hcell3
  have hcd : ∀ W : World, (W.alloc (.cells Z 5)).cell? ⟨d, 0, none⟩ = (W.alloc (.cells Z 5)).cell? ⟨d, 0, none⟩ := fun _ => rfl
  clear hcd hal
  have hal : (w2.alloc (.cells Z 5)).drew.cell? ⟨d, 0, none⟩ = some (.slice (some a0) rest.length c) := (show (w2.alloc (.cells Z 5)).cell? ⟨d, 0, none⟩ = _ from cell_alloc_old hcell3)
  have hC := HD.out.row
  have hap := HD.out.apart a0 rfl
  have hblk := HD.out.blk
  have hbl : ((rest.drop m).take k).length = k := by rw [List.length_take, List.length_drop]; omega
  have hCm : Kd.C (Kd.int .u8) w (some a1) k (ints ((rest.drop m).take k)) := by
    have h1 := Kd.C_drop (m := m) (c := c) (by rw [ints_length]; exact hC) (by rw [ints_length]; omega) (by rw [ints_length]; omega)
    rw [show (if c = m then some a0 else (some a0).map (·.add (m * (Kd.int .u8).sz))) = some a1 by rw [← ha1]; simp [Kd.int, Kd.scalar], ← ints_drop] at h1
    have h2 := Kd.C_take (m := k) h1 (by rw [ints_length, List.length_drop]; omega)
    rw [← ints_take, ints_length, hbl] at h2
    exact h2
  obtain ⟨a2, ha2, ha2b⟩ : ∃ a2, (if c = m + k then some a0 else some (a0.add (m + k))) = some a2 ∧ a2.block = a0.block := by
    split
    · exact ⟨_, rfl, rfl⟩
    · refine ⟨_, rfl, ?_⟩
      unfold Addr.add
      split <;> rfl
  have hCd : Kd.C (Kd.int .u8) w (some a2) (rest.drop (m + k)).length (ints (rest.drop (m + k))) := by
    have h1 := Kd.C_drop (m := m + k) (c := c) (by rw [ints_length]; exact hC) (by rw [ints_length]; omega) (by rw [ints_length]; omega)
    rw [show (if c = m + k then some a0 else (some a0).map (·.add ((m + k) * (Kd.int .u8).sz))) = some a2 by rw [← ha2]; simp [Kd.int, Kd.scalar], ← ints_drop, ints_length] at h1
    exact h1
  have hw2s : w.heap.size ≤ w2.heap.size := HB2.out.size
  have hBz : Below w.heap.size w (w2.alloc (.cells Z 5)).drew := below_drew (below_alloc HB2.out _)
  obtain ⟨news, hnews⟩ : ∃ news, encs (Value.int .u8) (ints ((rest.drop m).take k)) = news := ⟨_, rfl⟩
  have hnl : news.length = k := by rw [← hnews, encs_length, ints_length, hbl]
  have hgb : (w2.alloc (.cells Z 5)).drew.heap[w2.heap.size]? = some (.cells Z 5 (0, 0)) := World.alloc_heap_new w2 _
  obtain ⟨cur, hcur, hcs, hcl⟩ := setCells_row news 0 (w2.alloc (.cells Z 5)).drew Z hgb (by omega)
  have hfar := fun (i : Nat) (hi : i ≠ w2.heap.size) => setCells_far news 0 (w := (w2.alloc (.cells Z 5)).drew) i hi
  obtain ⟨e1, e2, e3, e4⟩ := setCells_same w2.heap.size news 0 (w2.alloc (.cells Z 5)).drew
  have HN := Aside0.mk (show news.length = k * 1 by omega)
  have HCA := Aside0.mk (show ∀ j u, news[j]? = some u → (w2.alloc (.cells Z 5)).drew.cell? (a1.add j) = some u by
    intro j u hj
    have hjl : j < k := by have := (List.getElem?_eq_some_iff.1 hj).1; omega
    obtain ⟨a, ha, hcc⟩ := (Kd.reads_of_C (d := (0 : Int)) (Kd.C_below hCm hBz)).2.2 (by omega)
    cases ha
    rw [hcc j hjl, ← hj, ← hnews]
    have hjl2 : j < (ints ((rest.drop m).take k)).length := by rw [ints_length, hbl]; exact hjl
    simp [encs, List.getD_eq_getElem?_getD, List.getElem?_eq_getElem hjl2])
  have H1C := Aside0.mk (show ∀ u ∈ news, u.oneCell' = true by
    intro u hu
    rw [← hnews] at hu
    obtain ⟨x, _, rfl⟩ := List.mem_map.1 hu
    rfl)
  have HSP := Aside0.mk (show ∀ j, j < news.length → ((w2.alloc (.cells Z 5)).drew.cell? ⟨w2.heap.size, 0 + 0 * 1 + j, none⟩).isSome = true ∧ (w2.alloc (.cells Z 5)).drew.frozen? ⟨w2.heap.size, 0 + 0 * 1 + j, none⟩ = false by
    intro j hj
    rw [hnl] at hj
    have hjz : j < Z.size := by omega
    refine ⟨?_, ?_⟩
    · rw [cellB hgb]; simp [hjz]
    · exact frozenB hgb _)
  obtain ⟨W4, hW4⟩ : ∃ W4, (w2.alloc (.cells Z 5)).drew.setCells w2.heap.size 0 news = W4 := ⟨_, rfl⟩
  rw [hW4] at hcur hfar e1 e2 e3 e4
  have hB4 : Below w.heap.size w W4 := ⟨e1.trans hBz.os, e2.trans hBz.tape, e3.trans hBz.output, by rw [e4]; exact hBz.size, fun i hi => (hfar i (by omega)).trans (hBz.block i hi)⟩
  have hOwn : OwnB W4 w.heap.size (.slice (some ⟨w2.heap.size, 0, none⟩) ((rest.drop m).take k).length k) (ints ((rest.drop m).take k)) := by
    refine Kd.R_of_own (h1 := fun _ => rfl) ?_ (fun _ _ => trivial)
    refine ⟨by rw [encs_length]; omega, .inr ⟨w2.heap.size, k, cur, by rw [ints_length], hw2s, hcur, by rw [ints_length, hbl]; exact Nat.le_refl _, by unfold maxLen; omega, by rw [hcs, hZs, Nat.mul_one], ?_⟩⟩
    rw [hcl, ints_length, hbl, Nat.mul_one, hnews]
    simp [hnl]
  have hd4 : W4.heap[d]? = some (.cells #[.slice (some a0) rest.length c, .int .i64 0] 42 (0, 0)) := (hB4.block d (Nat.lt_of_lt_of_le (Array.getElem?_eq_some_iff.1 hblk).1 (Nat.le_refl _))).trans hblk
  have hc4 : W4.cell? ⟨d, 0, none⟩ = some (.slice (some a0) rest.length c) := by simp [World.cell?, hd4]
  have hf4 : W4.frozen? ⟨d, 0, none⟩ = false := by simp [World.frozen?, hd4]
  have hdlt : d < w.heap.size := (Array.getElem?_eq_some_iff.1 hblk).1
  have hdl2 : (rest.drop (m + k)).length = rest.length - (m + k) := List.length_drop ..
  have POST := Aside0.mk (show ∀ W5, W5 = W4.setCell ⟨d, 0, none⟩ (.slice (some a2) (rest.length - (m + k)) (c - (m + k))) → ∃ g k_ A' c', Ending.returned (.tuple #[.slice (some ⟨w2.heap.size, 0, none⟩) k k, .int .i64 0]) = .returned (.tuple #[.slice (some ⟨g, 0, none⟩) ((rest.drop m).take k).length k_, .int .i64 0]) ∧ OwnB W5 w.heap.size (.slice (some ⟨g, 0, none⟩) ((rest.drop m).take k).length k_) (ints ((rest.drop m).take k)) ∧ DecAt W5 d (rest.drop (m + k)) 0 A' c' ∧ (∀ a', A' = some a' → ∃ a, some a0 = some a ∧ a'.block = a.block) ∧ KeepX (fun i => i = d) w W5 by
    rintro W5 rfl
    refine ⟨w2.heap.size, k, some a2, c - (m + k), by rw [hbl], ?_, ⟨?_, ?_, by rw [hdl2]; omega, by omega, ?_⟩, ?_, ?_⟩
    · exact Kd.R_mono (Kd.R_far (p := ⟨d, 0, none⟩) (Kd.R_bound hOwn) (fun i hi => by have := hi.2.1; show i ≠ d; omega) _) (fun _ h => h.1)
    · have := blk_set hd4 0 (.slice (some a2) (rest.length - (m + k)) (c - (m + k)))
      rw [this, hdl2]
      rfl
    · exact Kd.C_keep (0 : Int) (Kd.C_below hCd hB4) ((KeepBut.refl W4 d none).set_ 0 _) (fun ad e _ => by cases e; rw [ha2b]; exact hap)
    · intro a e; cases e; rw [ha2b]; exact hap
    · intro a' e; cases e; exact ⟨a0, rfl, ha2b⟩
    · exact (KeepX.of_below hB4).trans (KeepX.setCell (X := fun i => i = d) W4 rfl _))
  have hdw2 : d ≠ w2.heap.size := by omega
  subst hW4
  clear hC hblk hCm hCd hBz hgb hcur hcs hcl hfar e1 e2 e3 e4 hOwn hd4 hB4 hbl hnl hdl2 hap ha2b HD hnews
  obtain ⟨i0, hi, hz0, hz1, hz2⟩ := info_parts info8
  have hw2 : IntKind.i64.wrap ((m : Int) + (k : Int)) = (m : Int) + (k : Int) := by rw [IntKind.wrap_i64]; omega
  go_region_law (refine step_append_room rfl (.tmp 49) (.tmp 58) 27 rfl 5 i0 1 Tryz.underlying27 hi hz1 w2.heap.size 0 0 k (by simp [Act.eval, Act.put]) a1 k (c - m) news (by simp [Act.eval, Act.put]) HN.out HCA.out H1C.out (by omega) HSP.out ?_)
  all_goals
    go_wp2_with (fail)
    go_ret2
    have hP := POST.out _ rfl
    first
    | exact hP
    | (simp only [Nat.zero_add] at *; exact hP)
end Go.Proofs.YtomebmjjgkcjiaaGreatDoor.G
