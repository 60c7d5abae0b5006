/-
  The helpers in lists of bytes; Dead, Held: contracts.
-/
import Derived.Test.YtomebmjjgkcjiaaGreatDoorFrameAlive
import Derived.Test.YtomebmjjgkcjiaaGreatDoorFramePlain
set_option linter.unusedVariables false
namespace Go.Proofs.YtomebmjjgkcjiaaGreatDoor.G
open Go.RowKit Go.Proofs.YtomebmjjgkcjiaaGreatDoorW.PrintWords Go.Lib
def fill : List UInt8 := [201, 202, 203, 204, 205, 206, 207, 208]
theorem copy_f (l : List Int) (h : l.length < 140737488355328) : PUt.parlanceref00_CopyBytes.f l = some l := by
  unfold PUt.parlanceref00_CopyBytes.f
  rw [Option.bind_some, if_pos (by simpa using h), List.nil_append]
def fillI : Nat → Nat → List Int
  | 0, _ => []
  | d + 1, i => (201 + (i : Int)) :: fillI d (i + 1)
theorem spare_go : ∀ (d i : Nat) (x : List Int), i + d = 8 → x.length < 140737488355000 + i → PUt.parlanceref00_Spare.l0 (d + 1) x i = some (x ++ fillI d i)
  | 0, i, x, hi, h => by
    unfold PUt.parlanceref00_Spare.l0
    rw [if_neg (by omega)]
    simp [fillI]
  | d + 1, i, x, hi, h => by
    unfold PUt.parlanceref00_Spare.l0
    rw [if_pos (by omega), if_pos (by omega)]
    have e : wrap64 ((i : Int) + 1) = ((i + 1 : Nat) : Int) := by unfold wrap64; omega
    have e2 : (wrap64 (201 + (i : Int))) % 256 = 201 + (i : Int) := by unfold wrap64; omega
    rw [e, e2, spare_go d (i + 1) _ (by omega) (by rw [List.length_append]; simp; omega), List.append_assoc]
    rfl
theorem fillI_eq : fillI 8 0 = ints fill := by decide
theorem spare_f (l : List UInt8) (h : l.length < 140737488355000) : PUt.parlanceref00_Spare.f 9 (ints l) = some (ints (l ++ fill)) := by
  unfold PUt.parlanceref00_Spare.f
  rw [copy_f _ (by rw [ints_length]; omega), Option.bind_some, ints_append, ← fillI_eq]
  exact spare_go 8 0 _ rfl (by rw [ints_length]; omega)
theorem same_go (l : List Int) (h : l.length < 4611686018427387904) : ∀ (d i : Nat), l.length - i = d → i ≤ l.length → PUt.parlanceref00_SameBytes.l0 (d + 1) l l i = some true
  | 0, i, hd, hi => by
    unfold PUt.parlanceref00_SameBytes.l0
    rw [if_neg (by omega)]
  | d + 1, i, hd, hi => by
    unfold PUt.parlanceref00_SameBytes.l0
    rw [if_pos (by omega), if_pos (by omega), if_pos (by omega), if_pos rfl]
    have e : wrap64 ((i : Int) + 1) = ((i + 1 : Nat) : Int) := by unfold wrap64; omega
    rw [e]
    exact same_go l h d (i + 1) (by omega) (by omega)
theorem same_f (l : List Int) (h : l.length < 4611686018427387904) : PUt.parlanceref00_SameBytes.f (l.length + 1) l l = some true := by
  unfold PUt.parlanceref00_SameBytes.f
  rw [if_pos rfl]
  exact same_go l h l.length 0 (by omega) (by omega)
theorem same_le {k k' : Nat} (hk : k ≤ k') {l : List Int} (h : l.length < 4611686018427387904) (hl : l.length + 1 ≤ k) : PUt.parlanceref00_SameBytes.f k l l = some true := by
  have : ∀ (d k i : Nat), l.length - i = d → i ≤ l.length → d + 1 ≤ k → PUt.parlanceref00_SameBytes.l0 k l l i = some true := by
    intro d
    induction d with
    | zero =>
      intro k i hd hi hk
      obtain ⟨k, rfl⟩ : ∃ m, k = m + 1 := ⟨k - 1, by omega⟩
      unfold PUt.parlanceref00_SameBytes.l0
      rw [if_neg (by omega)]
    | succ d ih =>
      intro k i hd hi hk
      obtain ⟨k, rfl⟩ : ∃ m, k = m + 1 := ⟨k - 1, by omega⟩
      unfold PUt.parlanceref00_SameBytes.l0
      rw [if_pos (by omega), if_pos (by omega), if_pos (by omega), if_pos rfl]
      have e : wrap64 ((i : Int) + 1) = ((i + 1 : Nat) : Int) := by unfold wrap64; omega
      rw [e]
      exact ih k (i + 1) (by omega) (by omega) (by omega)
  unfold PUt.parlanceref00_SameBytes.f
  rw [if_pos rfl]
  exact this l.length k 0 (by omega) (by omega) hl
theorem sameRows_f (L : List (List Int)) (n : Nat) (h : ∀ l ∈ L, l.length < n) (hn : n < 4611686018427387904) (hL : L.length < 4611686018427387904) : PUt.parlanceref00_SameRows.f (L.length + n + 1) L L = some true := by
  have : ∀ (d k i : Nat), L.length - i = d → i ≤ L.length → d + n + 1 ≤ k → PUt.parlanceref00_SameRows.l0 k L L i = some true := by
    intro d
    induction d with
    | zero =>
      intro k i hd hi hk
      obtain ⟨k, rfl⟩ : ∃ m, k = m + 1 := ⟨k - 1, by omega⟩
      unfold PUt.parlanceref00_SameRows.l0
      rw [if_neg (by omega)]
    | succ d ih =>
      intro k i hd hi hk
      obtain ⟨k, rfl⟩ : ∃ m, k = m + 1 := ⟨k - 1, by omega⟩
      have hlt : i < L.length := by omega
      have hm : PUt.rd_L1 L (i : Int) ∈ L := by
        unfold PUt.rd_L1
        rw [Int.toNat_natCast, List.getD_eq_getElem?_getD, List.getElem?_eq_getElem hlt]
        exact List.getElem_mem hlt
      unfold PUt.parlanceref00_SameRows.l0
      rw [if_pos (by omega), if_pos (by omega), if_pos (by omega)]
      have hs : PUt.parlanceref00_SameBytes.f k (PUt.rd_L1 L (i : Int)) (PUt.rd_L1 L (i : Int)) = some true := same_le (Nat.le_refl _) (by have := h _ hm; omega) (by have := h _ hm; omega)
      have e : wrap64 ((i : Int) + 1) = ((i + 1 : Nat) : Int) := by unfold wrap64; omega
      rw [hs, Option.bind_some, e]
      simpa using ih k (i + 1) (by omega) (by omega) (by omega)
  unfold PUt.parlanceref00_SameRows.f
  rw [if_pos rfl]
  exact this L.length _ 0 (by omega) (by omega) (by omega)
theorem Copy_calls (A : Option Addr) (c : Nat) (b : List UInt8) (w : World) (hC : Kd.C (Kd.int .u8) w A b.length (ints b)) (hc : b.length ≤ c) (hl : b.length < 140737488355328) :
    Calls Tryz.prog 15 #[.slice A b.length c] w fun e w' => ∃ A' c', e = .returned (.slice A' b.length c') ∧ OwnB w' w.heap.size (.slice A' b.length c') (ints b) ∧ Below w.heap.size w w' := by
  have h := PUt.parlanceref00_CopyBytes.calls A c (ints b) (ints b) w (by rw [ints_length]; exact hC) (by rw [ints_length]; exact hc) (copy_f _ (by rw [ints_length]; exact hl))
  rw [ints_length] at h
  refine h.mono ?_
  rintro e w' ⟨v, rfl, hr, hb⟩
  obtain ⟨A', c', rfl, _, _⟩ := Kd.R_reads hr
  rw [ints_length] at hr ⊢
  exact ⟨A', c', rfl, hr, hb⟩
theorem Spare_calls (A : Option Addr) (c : Nat) (b : List UInt8) (w : World) (hC : Kd.C (Kd.int .u8) w A b.length (ints b)) (hc : b.length ≤ c) (hl : b.length < 140737488355000) :
    Calls Tryz.prog 7 #[.slice A b.length c] w fun e w' => ∃ A' c', e = .returned (.slice A' (b.length + 8) c') ∧ b.length + 8 ≤ c' ∧ Kd.C (Kd.int .u8) w' A' (b.length + 8) (ints (b ++ fill)) ∧ Below w.heap.size w w' := by
  have h := PUt.parlanceref00_Spare.calls 9 A c (ints b) (ints (b ++ fill)) w (by rw [ints_length]; exact hC) (by rw [ints_length]; exact hc) (spare_f b hl)
  rw [ints_length] at h
  refine h.mono ?_
  rintro e w' ⟨v, rfl, hr, hb⟩
  obtain ⟨A', c', rfl, hlc, hC'⟩ := Kd.R_reads hr
  have e : (ints (b ++ fill)).length = b.length + 8 := by rw [ints_length, List.length_append]; rfl
  rw [e] at hlc hC' ⊢
  exact ⟨A', c', rfl, hlc, hC', hb⟩
theorem Same_calls (A A' : Option Addr) (c c' n : Nat) (b : List UInt8) (w : World) (hn : b.length = n) (hC : Kd.C (Kd.int .u8) w A n (ints b)) (hc : n ≤ c) (hC' : Kd.C (Kd.int .u8) w A' n (ints b)) (hc' : n ≤ c') (hl : n < 4611686018427387904) :
    Calls Tryz.prog 13 #[.slice A n c, .slice A' n c'] w fun e w' => e = .returned (.bool true) ∧ Below w.heap.size w w' := by
  subst hn
  have h := PUt.parlanceref00_SameBytes.calls ((ints b).length + 1) A c (ints b) A' c' (ints b) true w (by rw [ints_length]; exact hC) (by rw [ints_length]; exact hc) (by rw [ints_length]; exact hC') (by rw [ints_length]; exact hc') (same_f _ (by rw [ints_length]; exact hl))
  rw [ints_length] at h
  refine h.mono ?_
  rintro e w' ⟨rfl, hd⟩
  exact ⟨rfl, hd.below⟩
theorem SameRows_calls (A A' : Option Addr) (c c' n : Nat) (L : List (List UInt8)) (w : World) (hn : L.length = n) (hC : Kd.C (Kd.slice 5 (Kd.int .u8)) w A n (L.map ints)) (hc : n ≤ c) (hC' : Kd.C (Kd.slice 5 (Kd.int .u8)) w A' n (L.map ints)) (hc' : n ≤ c') (hl : ∀ l ∈ L, l.length < 140737488355328) (hL : n < 140737488355328) :
    Calls Tryz.prog 10 #[.slice A n c, .slice A' n c'] w fun e w' => e = .returned (.bool true) ∧ Below w.heap.size w w' := by
  subst hn
  have h := PUt.parlanceref00_SameRows.calls ((L.map ints).length + 140737488355328 + 1) A c (L.map ints) A' c' (L.map ints) true w (by rw [List.length_map]; exact hC) (by rw [List.length_map]; exact hc) (by rw [List.length_map]; exact hC') (by rw [List.length_map]; exact hc') (sameRows_f _ _ (fun l hl' => by
    obtain ⟨x, hx, rfl⟩ := List.mem_map.1 hl'
    rw [ints_length]
    exact hl x hx) (by omega) (by rw [List.length_map]; omega))
  rw [List.length_map] at h
  refine h.mono ?_
  rintro e w' ⟨rfl, hd⟩
  exact ⟨rfl, hd.below⟩
theorem Held_calls (d : Nat) (rest : List UInt8) (e : Int) (A : Option Addr) (c : Nat) (w : World) (hD : DecAt w d rest e A c) :
    Calls Tryz.prog 12 #[.pointer (some ⟨d, 0, none⟩)] w fun e' w' => e' = .returned (.int .i64 rest.length) ∧ w = w' := by
  have h0 := hD.cell0
  go_enter Tryz.func12, Tryz.ntmps12
  go_wp2_with (fail)
  go_ret
  exact ⟨rfl, rfl⟩
theorem Dead_calls (d : Nat) (rest : List UInt8) (e : Int) (A : Option Addr) (c : Nat) (w : World) (hD : DecAt w d rest e A c) (b : Bool) (hb : (e != 0) = b) :
    Calls Tryz.prog 11 #[.pointer (some ⟨d, 0, none⟩)] w fun e' w' => e' = .returned (.bool b) ∧ w = w' := by
  have h1 := hD.cell1
  go_enter Tryz.func11, Tryz.ntmps11
  go_wp2_with (fail)
  go_ret
  exact ⟨rfl, rfl⟩
/-- A piece fed to a decoder in any state. -/
def feedD (r : List UInt8) (e : Int) (s : List UInt8) : List (List UInt8) × List UInt8 × Int := feedS ([], r, e) s
theorem feedS_D (o : List (List UInt8)) (r : List UInt8) (e : Int) (s : List UInt8) : feedS (o, r, e) s = (o ++ (feedD r e s).1, (feedD r e s).2.1, (feedD r e s).2.2) := by
  unfold feedD feedS
  simp only
  split <;> simp
theorem feedD_len (r : List UInt8) (e : Int) (s : List UInt8) : (feedD r e s).2.1.length ≤ r.length + s.length ∧ (feedD r e s).1.length ≤ r.length + s.length := by
  unfold feedD feedS
  simp only
  have := feedL_len _ (r ++ s) (Nat.lt_succ_self _)
  rw [List.length_append] at this
  split
  · simp only [List.length_nil]; omega
  · simp only [List.nil_append]; omega
theorem Feed_any (d : Nat) (rest s : List UInt8) (e0 : Int) (A B : Option Addr) (c cb : Nat) (w0 w : World) (hT : TF w0) (hB : Below w0.heap.size w0 w) (hd0 : w0.heap.size ≤ d) (hD : DecAt w d rest e0 A c) (hC : Kd.C (Kd.int .u8) w B s.length (ints s)) (hcb : s.length ≤ cb) (hl : rest.length + s.length < 4294967281) (hdr : e0 ≠ 0 → rest = []) :
    Calls Tryz.prog 8 #[.pointer (some ⟨d, 0, none⟩), .slice B s.length cb] w fun e w' => ∃ v A' c', e = .returned (.tuple #[v, .int .i64 (feedD rest e0 s).2.2]) ∧ OwnRows w' w.heap.size v ((feedD rest e0 s).1.map ints) ∧ DecAt w' d (feedD rest e0 s).2.1 (feedD rest e0 s).2.2 A' c' ∧ (∀ a, A' = some a → (feedD rest e0 s).2.1 ≠ [] → w.heap.size ≤ a.block) ∧ KeepX (fun i => i = d) w w' := by
  by_cases he : e0 = 0
  · subst he
    have hf : feedD rest 0 s = feedL (rest ++ s) := by unfold feedD feedS; simp
    rw [hf]
    refine (Feed_calls d rest s A B c cb w0 w hT hB hd0 hD hC hcb hl).mono ?_
    rintro e w' ⟨v, A', c', rfl, h1, h2, h3, h4⟩
    exact ⟨v, A', c', rfl, h1, h2, fun a e _ => h3 a e, h4⟩
  · have hf : feedD rest e0 s = ([], rest, e0) := by unfold feedD feedS; simp [he]
    rw [hf]
    refine (Feed_dead d rest e0 A c _ w hD he).mono ?_
    rintro e w' ⟨rfl, hb⟩
    exact ⟨_, A, c, rfl, Kd.R_nil _ _ _ _ _, hD.below hb, fun a e hn => absurd (hdr he) hn, KeepX.of_below hb⟩
theorem own_reads {w : World} {base : Nat} {A : Option Addr} {c : Nat} {b : List UInt8} (h : OwnB w base (.slice A b.length c) (ints b)) : b.length ≤ c ∧ Kd.C (Kd.int .u8) w A b.length (ints b) := by
  obtain ⟨_, h1, h2⟩ := Kd.R_reads' h
  rw [ints_length] at h2
  exact ⟨h1, h2⟩
theorem rows_step {wr w2 w3 : World} {n : Nat} {v : Value} {L : List (List Int)} (HO : OwnRows wr (n + 1) v L) (hb : Below wr.heap.size wr w2) (hk : KeepX (fun i => i = n) w2 w3) : OwnRows w3 (n + 1) v L :=
  Kd.R_mono (Kd.R_step (Kd.R_bound (Kd.R_below HO hb)) (fun i hi hlt => hk.block i hlt (fun e => by have := hi.2.1; omega))) (fun _ h => h.1)
theorem row_made {w3 : World} {base0 base : Nat} {v : Value} {L : List (List UInt8)} (h : OwnRows w3 base0 v (L.map ints)) (hb : base ≤ base0) : ∃ A c, v = .slice A L.length c ∧ L.length ≤ c ∧ ReadsRow ((Kd.slice 5 (Kd.int .u8)).M w3 base (fun k => base0 ≤ k)) 1 w3 A L.length (L.map ints) := by
  have h2 := Kd.R_lower (Kd.R_mono (Kd.R_bound h) (fun k hk => (hk.2.1 : base0 ≤ k))) hb
  obtain ⟨A, c, he, hl, hr⟩ := OwnRow.reads h2.2
  rw [List.length_map] at he hl hr
  exact ⟨A, c, he, hl, hr.imp_ (Below.refl _ _) (fun _ _ hp => (Kd.slice 5 (Kd.int .u8)).M_mono (fun k hk => hk.1) hp)⟩
theorem DecAt.grown' {w w' : World} {d : Nat} {rest : List UInt8} {e : Int} {A : Option Addr} {c : Nat} {row : Option Nat} (h : DecAt w d rest e A c) (hg : w.grownBy w' row) (hd : some d ≠ row) (hA : ∀ a, A = some a → rest ≠ [] → some a.block ≠ row) : DecAt w' d rest e A c := by
  by_cases hr : rest = []
  · subst hr
    exact ⟨(hg.block d h.lt hd).trans h.blk, ⟨rfl, by simp, fun h => absurd h (Nat.lt_irrefl 0)⟩, h.cap, h.top, h.apart⟩
  · exact h.grown hg hd (fun a e => hA a e hr)
theorem DecAt.rest_lt {w : World} {d : Nat} {rest : List UInt8} {e : Int} {A : Option Addr} {c : Nat} (h : DecAt w d rest e A c) (hr : rest ≠ []) : ∀ a, A = some a → a.block < w.heap.size := by
  rintro a rfl
  exact Kd.C_lt h.row (List.length_pos_iff.2 hr) (by decide)
theorem flat_take (ps : List (List UInt8)) (i : Nat) (h : i < ps.length) : (ps.take (i + 1)).flatten = (ps.take i).flatten ++ ps[i] := by
  rw [List.take_succ_eq_append_getElem h, List.flatten_append]
  simp
theorem flat_le (ps : List (List UInt8)) (i : Nat) : (ps.take i).flatten.length ≤ ps.flatten.length := by
  conv => rhs; rw [← List.take_append_drop i ps]
  rw [List.flatten_append, List.length_append]
  omega
theorem R_empty {α : Type} (d : Kd α) (e base : Nat) (W : World) (hb : base ≤ W.heap.size) : d.R e (W.alloc (.cells #[] e)) base (fun _ => True) (.slice (some ⟨W.heap.size, 0, none⟩) 0 0) [] :=
  ⟨fun _ _ => trivial, [], ⟨by simp, .inr ⟨W.heap.size, 0, #[], rfl, hb, World.alloc_heap_new W _, Nat.le_refl _, by unfold maxLen; omega, by simp, by simp⟩⟩, ⟨by simp, fun j p hj => by simp at hj⟩⟩
theorem row_at {W : World} {A : Option Addr} {n : Nat} {L : List (List UInt8)} (h : Kd.C (Kd.slice 5 (Kd.int .u8)) W A n (L.map ints)) (i : Nat) (hn : L.length = n) (hi : i < L.length) : ∃ ad B cb, A = some ad ∧ W.cell? (ad.add i) = some (.slice B L[i].length cb) ∧ L[i].length ≤ cb ∧ Kd.C (Kd.int .u8) W B L[i].length (ints L[i]) := by
  obtain ⟨ad, B, cb, e, hc, hl, hC⟩ := PUt.at_L1 h (i : Int) (by omega) (by omega)
  have hr : PUt.rd_L1 (L.map ints) (i : Int) = ints L[i] := by
    unfold PUt.rd_L1
    rw [Int.toNat_natCast, List.getD_eq_getElem?_getD, List.getElem?_map, List.getElem?_eq_getElem hi]
    rfl
  rw [hr, ints_length] at hc hl hC
  exact ⟨ad, B, cb, e, hc, hl, hC⟩
end Go.Proofs.YtomebmjjgkcjiaaGreatDoor.G
