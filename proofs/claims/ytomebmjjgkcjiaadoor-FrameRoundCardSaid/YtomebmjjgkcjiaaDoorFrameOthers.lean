/-
  The law FrameOthers: its walk.
-/
import Derived.Test.YtomebmjjgkcjiaaDoorFrameRound
set_option linter.unusedVariables false
namespace Go.Proofs.YtomebmjjgkcjiaaDoor.G
open Go.RowKit Go.Proofs.YtomebmjjgkcjiaaDoorW.PrintWords Go.Lib
set_option maxRecDepth 100000 in
theorem lowB_99 (x : UInt8) (h : lowB x = 99) : x.toNat = 99 ∨ x.toNat = 67 := by
  have hd : ∀ n : Nat, n < 256 → lowB (UInt8.ofNat n) = 99 → n = 99 ∨ n = 67 := by decide
  exact hd x.toNat (UInt8.toNat_lt x) (by simpa using h)
def lineL (n : Nat) : List UInt8 := lenCap ++ [58] ++ decDigits n
def lineO (nm v : List UInt8) : List UInt8 := nm ++ [58] ++ v
theorem others_feed (nm v b : List UInt8) (h0 : nm ≠ []) (hl : nm.length + v.length ≤ 900) (hb : b.length ≤ 65536) (hlet : ∀ x ∈ nm, letB x) (hno : ∀ x ∈ v, x ≠ 13 ∧ x ≠ 10) (hk : ¬ (nm.length = 14 ∧ ((nm.headD 0).toNat = 99 ∨ (nm.headD 0).toNat = 67))) :
    feedL (lineO nm v ++ [13, 10] ++ (lineL b.length ++ [13, 10]) ++ [13, 10] ++ b) = ([b], [], 0) ∧ feedL (lineL b.length ++ [13, 10] ++ (lineO nm v ++ [13, 10]) ++ [13, 10] ++ b) = ([b], [], 0) := by
  have hx : nm.map lowB ≠ lenName := by
    intro e
    have e1 := congrArg List.length e
    rw [List.length_map] at e1
    refine hk ⟨e1, ?_⟩
    cases nm with
    | nil => exact absurd rfl h0
    | cons a t =>
      simp only [List.map_cons, lenName, List.cons.injEq] at e
      exact lowB_99 a e.1
  have hO : ∀ f, lenStep f (lineO nm v) = some f := fun f => by
    have := lenStep_other nm v h0 hlet hx hno f
    rw [show lineO nm v = nm ++ 58 :: v by simp [lineO]]
    exact this
  have hL : lenStep (-1) (lineL b.length) = some (b.length : Int) := by
    have := lenStep_len [] (by simp) b.length (by omega) (-1) (by decide)
    rw [show lineL b.length = lenCap ++ 58 :: ([] ++ decDigits b.length) by simp [lineL]]
    exact this
  have hdl := decDigits_len 5 b.length (by omega)
  have hcl : lenCap.length = 14 := rfl
  have n13O : ∀ x ∈ lineO nm v, x ≠ 13 := by
    intro x hx
    unfold lineO at hx
    simp only [List.mem_append, List.mem_singleton] at hx
    rcases hx with (h | rfl) | h
    · exact (letB_no (hlet x h)).1
    · decide
    · exact (hno x h).1
  have n13L : ∀ x ∈ lineL b.length, x ≠ 13 := by
    intro x hx
    unfold lineL at hx
    simp only [List.mem_append, List.mem_singleton] at hx
    rcases hx with (h | rfl) | h
    · exact (show ∀ y ∈ lenCap, y ≠ 13 by decide) x h
    · decide
    · exact (dig_no x ((decDigits_dig (b.length + 1) b.length (by omega)).1 x h)).1
  have lO : (lineO nm v).length = nm.length + v.length + 1 := by simp [lineO]; omega
  have lL : (lineL b.length).length ≤ 30 := by simp [lineL]; omega
  have neO : lineO nm v ≠ [] := by unfold lineO; simp
  have neL : lineL b.length ≠ [] := by unfold lineL; simp
  constructor
  · have := feed_two (lineO nm v) (lineL b.length) b neO n13O neL n13L (by omega) hb (by rw [hO]; exact hL)
    rw [show lineO nm v ++ [13, 10] ++ (lineL b.length ++ [13, 10]) ++ [13, 10] ++ b = lineO nm v ++ 13 :: 10 :: lineL b.length ++ ends ++ b by simp [ends]]
    exact this
  · have := feed_two (lineL b.length) (lineO nm v) b neL n13L neO n13O (by omega) hb (by rw [hL]; exact hO _)
    rw [show lineL b.length ++ [13, 10] ++ (lineO nm v ++ [13, 10]) ++ [13, 10] ++ b = lineL b.length ++ 13 :: 10 :: lineO nm v ++ ends ++ b by simp [ends]]
    exact this
theorem C_row2 (W : World) (g : Nat) (A B : Option Addr) (ca cb : Nat) (l m : List UInt8) (hc : W.cell? ⟨g, 0, none⟩ = some (.slice A l.length ca)) (hd : W.cell? ⟨g, 1, none⟩ = some (.slice B m.length cb)) (hl : l.length ≤ ca) (hm : m.length ≤ cb) (hC : Kd.C (Kd.int .u8) W A l.length (ints l)) (hD : Kd.C (Kd.int .u8) W B m.length (ints m)) : Kd.C (Kd.slice 5 (Kd.int .u8)) W (some ⟨g, 0, none⟩) 2 [ints l, ints m] := by
  refine ⟨rfl, by decide, fun _ => ⟨_, rfl, fun j p hj => ?_⟩⟩
  match j, hj with
  | 0, hj =>
    simp only [List.getElem?_cons_zero, Option.some.injEq] at hj
    subst hj
    refine ⟨[.slice A l.length ca], rfl, ⟨A, ca, by rw [ints_length], by rw [ints_length]; exact hl, by rw [ints_length]; exact hC⟩, fun i u hu => ?_⟩
    match i, hu with
    | 0, hu =>
      simp only [List.getElem?_cons_zero, Option.some.injEq] at hu
      subst hu
      simpa [Addr.add] using hc
    | i + 1, hu => simp at hu
  | 1, hj =>
    simp only [List.getElem?_cons_succ, List.getElem?_cons_zero, Option.some.injEq] at hj
    subst hj
    refine ⟨[.slice B m.length cb], rfl, ⟨B, cb, by rw [ints_length], by rw [ints_length]; exact hm, by rw [ints_length]; exact hD⟩, fun i u hu => ?_⟩
    match i, hu with
    | 0, hu =>
      simp only [List.getElem?_cons_zero, Option.some.injEq] at hu
      subst hu
      have e : (Addr.add ⟨g, 0, none⟩ (1 * (Kd.slice 5 (Kd.int .u8)).sz + 0)) = ⟨g, 1, none⟩ := add0 g 1
      rw [e]
      exact hd
    | i + 1, hu => simp at hu
  | j + 2, hj => simp at hj
/-- Two pieces told. -/
theorem all_two (g : Nat) (A B : Option Addr) (ca cb : Nat) (l m : List UInt8) (w : World) (hT : TF w) (hc : w.cell? ⟨g, 0, none⟩ = some (.slice A l.length ca)) (hd : w.cell? ⟨g, 1, none⟩ = some (.slice B m.length cb)) (hl : l.length ≤ ca) (hm : m.length ≤ cb) (hC : Kd.C (Kd.int .u8) w A l.length (ints l)) (hD : Kd.C (Kd.int .u8) w B m.length (ints m)) (hmax : l.length + m.length < 4000000000) (o : List (List UInt8)) (hf : feedL (l ++ m) = (o, [], 0)) :
    Calls Tryd.prog 18 #[.slice (some ⟨g, 0, none⟩) 2 2] w fun e w' => ∃ Av cv, e = .returned (.tuple #[.slice Av o.length cv, .int .i64 0, .int .i64 0]) ∧ o.length ≤ cv ∧ Kd.C (Kd.slice 5 (Kd.int .u8)) w' Av o.length (o.map ints) ∧ Below w.heap.size w w' := by
  have e1 : [l, m].flatten = l ++ m := by simp
  refine (all_calls (some ⟨g, 0, none⟩) 2 [l, m] w hT (C_row2 w g A B ca cb l m hc hd hl hm hC hD) (Nat.le_refl _) (by rw [e1, List.length_append]; exact hmax) (show 2 < 1000000000 by decide)).mono ?_
  rintro e w' ⟨v, rfl, hr, hb⟩
  rw [e1, hf] at hr ⊢
  obtain ⟨Av, cv, rfl, h1, h2⟩ := Kd.R_reads hr
  rw [List.length_map] at h1 h2 ⊢
  exact ⟨Av, cv, rfl, h1, h2, hb⟩
theorem all_conv (w3 : World) (S : ByteArray) (n : Nat) (hn : S.size = n) (hn9 : n ≤ 100000) (A : Option Addr) (c : Nat) (b : List UInt8) (hT : TF w3) (hC : Kd.C (Kd.int .u8) w3 A b.length (ints b)) (hc : b.length ≤ c) (hb : b.length ≤ 65536) (hf : feedL (S.data.toList ++ b) = ([b], [], 0)) :
    Calls Tryd.prog 18 #[.slice (some ⟨(bytesWorld w3 5 S).heap.size, 0, none⟩) 2 2] ((bytesWorld w3 5 S).alloc (.cells #[.slice (some ⟨w3.heap.size, 0, none⟩) n (grownCap w3 n 0 5), .slice A b.length c] 22)) fun e w' => ∃ Av cv, e = .returned (.tuple #[.slice Av 1 cv, .int .i64 0, .int .i64 0]) ∧ 1 ≤ cv ∧ Kd.C (Kd.slice 5 (Kd.int .u8)) w' Av 1 [ints b] ∧ Below w3.heap.size w3 w' := by
  have hS : S.data.toList.length = n := by rw [← Lib.size_eq]; exact hn
  have hcap := grownCap_ge w3 n 0 5
  have hCS : Kd.C (Kd.int .u8) (bytesWorld w3 5 S) (some ⟨w3.heap.size, 0, none⟩) S.data.toList.length (ints S.data.toList) := by
    have := conv_reads w3 5 S (by omega)
    rw [show YtomebmjjgkcjiaaDoorW.PrintWords.bytesOf S = ints S.data.toList from rfl, ints_length] at this
    exact this
  have hb1 := conv_below w3 5 S
  have hb2 := below_alloc hb1 (.cells #[.slice (some ⟨w3.heap.size, 0, none⟩) n (grownCap w3 n 0 5), .slice A b.length c] 22)
  refine (all_two (bytesWorld w3 5 S).heap.size (some ⟨w3.heap.size, 0, none⟩) A (grownCap w3 n 0 5) c S.data.toList b _ (TF_below hT hb2) (by rw [hS]; exact World.cell?_alloc_mark _ _ _ _ 0) (World.cell?_alloc_mark _ _ _ _ 1) (by omega) hc (Kd.C_below hCS (below_alloc (Below.refl _ _) _)) (Kd.C_below hC hb2) (by omega) [b] hf).mono ?_
  rintro e w' ⟨Av, cv, rfl, h1, h2, h3⟩
  exact ⟨Av, cv, rfl, h1, h2, below_step hb2 h3⟩
set_option maxHeartbeats 4000000 in
set_option maxRecDepth 100000 in
theorem others_calls (A : Option Addr) (c : Nat) (b : List UInt8) (nm v : ByteArray) (bh : Bool) (w : World) (hT : TF w) (hC : Kd.C (Kd.int .u8) w A b.length (ints b)) (hc : b.length ≤ c) (h1 : nm.size ≤ 140737488355328) (h2 : v.size ≤ 140737488355328) :
    Calls Tryd.prog 7 #[.slice A b.length c, .string nm, .string v, .bool bh] w fun e w' => e = .returned (.bool true) ∧ Below w.heap.size w w' := by
  have HA := Aside0.mk (Alive_calls w hT)
  have hwr : wrap64 ((nm.size : Int) + (v.size : Int)) = (nm.size : Int) + (v.size : Int) := by unfold wrap64; omega
  by_cases c1 : 900 < nm.size + v.size
  · have c1b : decide ((900 : Int) < (nm.size : Int) + (v.size : Int)) = true := decide_eq_true (by omega)
    clear hC hc hT c1
    go_enter Tryd.func7, Tryd.ntmps7
    go_wp2_with (go_at_call 9; refine HA.out.mono ?_; rintro e w1 ⟨rfl, hb⟩; have HB1 := Aside0.mk hb; clear hb)
    go_ret
    exact ⟨rfl, HB1.out⟩
  have c1b : decide ((900 : Int) < (nm.size : Int) + (v.size : Int)) = false := decide_eq_false (by omega)
  by_cases c2 : nm.data.toList = []
  · have c2b : nm.toList.isEmpty = true := by rw [Lib.toList_data, c2]; rfl
    clear hC hc hT c1 c2
    go_enter Tryd.func7, Tryd.ntmps7
    go_wp2_with (go_at_call 9; refine HA.out.mono ?_; rintro e w1 ⟨rfl, hb⟩; have HB1 := Aside0.mk hb; clear hb)
    go_ret
    exact ⟨rfl, HB1.out⟩
  have c2b : nm.toList.isEmpty = false := by
    rw [Lib.toList_data]
    cases h : nm.data.toList with
    | nil => exact absurd h c2
    | cons a t => rfl
  by_cases c3 : 65536 < b.length
  · have c3b : decide ((65536 : Int) < (b.length : Int)) = true := decide_eq_true (by omega)
    clear hC hc hT c1 c2
    go_enter Tryd.func7, Tryd.ntmps7
    go_wp2_with (go_at_call 9; refine HA.out.mono ?_; rintro e w1 ⟨rfl, hb⟩; have HB1 := Aside0.mk hb; clear hb)
    go_ret
    exact ⟨rfl, HB1.out⟩
  have c3b : decide ((65536 : Int) < (b.length : Int)) = false := decide_eq_false (by omega)
  have HT := Aside0.mk hT
  have HC := Aside0.mk (And.intro hC hc)
  have HL := Aside0.mk (And.intro c1 (And.intro c2 c3))
  have hn9 : nm.size ≤ 900 := by omega
  have hv9 : v.size ≤ 900 := by omega
  clear hC hc hT c1 c2 c3
  go_enter Tryd.func7, Tryd.ntmps7
  go_wp2_with (go_at_call 9; refine HA.out.mono ?_; rintro e w1 ⟨rfl, hb⟩; have HB1 := Aside0.mk hb; clear hb)
  go_loopg [9, 10] (nm.size + 1) (fun gk v9 _ wx => wx = w1 ∧ ∃ i : Nat, v9 = .int .i64 i ∧ Aside0 (i ≤ nm.size ∧ nm.size - i < gk ∧ ∀ j (h : j < nm.size), j < i → letB nm[j]))
  case atStart => exact ⟨rfl, 0, rfl, ⟨Nat.zero_le _, by omega, fun j h hj => absurd hj (Nat.not_lt_zero _)⟩⟩
  case round =>
    obtain ⟨rfl, i, rfl, HI⟩ := hrel
    by_cases hlt : i < nm.size
    · have HS := Aside0.mk (show letB nm[i] → ∀ j (h : j < nm.size), j < i + 1 → letB nm[j] from fun hl j h hj => by
        by_cases e : j = i
        · subst e; exact hl
        · exact HI.out.2.2 j h (by omega))
      by_cases k1 : 97 ≤ nm[i].toNat
      · by_cases k2 : nm[i].toNat ≤ 122
        · have d1 : decide (97 ≤ (nm[i].toNat : Int)) = true := decide_eq_true (by omega)
          have d2 : decide ((nm[i].toNat : Int) ≤ 122) = true := decide_eq_true (by omega)
          have hlet : Aside0 (letB nm[i]) := ⟨by unfold letB; omega⟩
          go_wp2_with (fail)
          obtain ⟨G, rfl⟩ : ∃ G, gk = G + 1 := ⟨gk - 1, by have := HI.out; omega⟩
          go_roundg G
          case measure => omega
          case rel => exact ⟨rfl, i + 1, by go_num, ⟨by omega, by have := HI.out.2.1; omega, HS.out hlet.out⟩⟩
        · have d1 : decide (97 ≤ (nm[i].toNat : Int)) = true := decide_eq_true (by omega)
          have d2 : decide ((nm[i].toNat : Int) ≤ 122) = false := decide_eq_false (by omega)
          have d3 : decide (65 ≤ (nm[i].toNat : Int)) = true := decide_eq_true (by omega)
          have d4 : decide ((nm[i].toNat : Int) ≤ 90) = false := decide_eq_false (by omega)
          have d5 : ((nm[i].toNat : Int) == 45) = false := by rw [beq_eq_false_iff_ne]; omega
          go_wp2_with (fail)
          go_ret
          exact ⟨rfl, HB1.out⟩
      · by_cases k3 : 65 ≤ nm[i].toNat
        · by_cases k4 : nm[i].toNat ≤ 90
          · have d1 : decide (97 ≤ (nm[i].toNat : Int)) = false := decide_eq_false (by omega)
            have d3 : decide (65 ≤ (nm[i].toNat : Int)) = true := decide_eq_true (by omega)
            have d4 : decide ((nm[i].toNat : Int) ≤ 90) = true := decide_eq_true (by omega)
            have hlet : Aside0 (letB nm[i]) := ⟨by unfold letB; omega⟩
            go_wp2_with (fail)
            obtain ⟨G, rfl⟩ : ∃ G, gk = G + 1 := ⟨gk - 1, by have := HI.out; omega⟩
            go_roundg G
            case measure => omega
            case rel => exact ⟨rfl, i + 1, by go_num, ⟨by omega, by have := HI.out.2.1; omega, HS.out hlet.out⟩⟩
          · have d1 : decide (97 ≤ (nm[i].toNat : Int)) = false := decide_eq_false (by omega)
            have d3 : decide (65 ≤ (nm[i].toNat : Int)) = true := decide_eq_true (by omega)
            have d4 : decide ((nm[i].toNat : Int) ≤ 90) = false := decide_eq_false (by omega)
            have d5 : ((nm[i].toNat : Int) == 45) = false := by rw [beq_eq_false_iff_ne]; omega
            go_wp2_with (fail)
            go_ret
            exact ⟨rfl, HB1.out⟩
        · by_cases k5 : nm[i].toNat = 45
          · have d1 : decide (97 ≤ (nm[i].toNat : Int)) = false := decide_eq_false (by omega)
            have d3 : decide (65 ≤ (nm[i].toNat : Int)) = false := decide_eq_false (by omega)
            have d5 : ((nm[i].toNat : Int) == 45) = true := by rw [beq_iff_eq]; omega
            have hlet : Aside0 (letB nm[i]) := ⟨by unfold letB; omega⟩
            go_wp2_with (fail)
            obtain ⟨G, rfl⟩ : ∃ G, gk = G + 1 := ⟨gk - 1, by have := HI.out; omega⟩
            go_roundg G
            case measure => omega
            case rel => exact ⟨rfl, i + 1, by go_num, ⟨by omega, by have := HI.out.2.1; omega, HS.out hlet.out⟩⟩
          · have d1 : decide (97 ≤ (nm[i].toNat : Int)) = false := decide_eq_false (by omega)
            have d3 : decide (65 ≤ (nm[i].toNat : Int)) = false := decide_eq_false (by omega)
            have d5 : ((nm[i].toNat : Int) == 45) = false := by rw [beq_eq_false_iff_ne]; omega
            go_wp2_with (fail)
            go_ret
            exact ⟨rfl, HB1.out⟩
    · obtain rfl : i = nm.size := by have := HI.out.1; omega
      have hge : decide ((nm.size : Int) < (nm.size : Int)) = false := decide_eq_false (by omega)
      have HLET := Aside0.mk (fun j h => HI.out.2.2 j h h)
      go_wp2_with (fail)
      go_loopg [11] (v.size + 1) (fun gk v11 wx => wx = wr ∧ ∃ i : Nat, v11 = .int .i64 i ∧ Aside0 (i ≤ v.size ∧ v.size - i < gk ∧ ∀ j (h : j < v.size), j < i → v[j] ≠ 13 ∧ v[j] ≠ 10))
      case atStart => exact ⟨rfl, 0, rfl, ⟨Nat.zero_le _, by omega, fun j h hj => absurd hj (Nat.not_lt_zero _)⟩⟩
      case round =>
        obtain ⟨rfl, i, rfl, HJ⟩ := hrel
        by_cases hlt : i < v.size
        · have HS := Aside0.mk (show v[i] ≠ 13 ∧ v[i] ≠ 10 → ∀ j (h : j < v.size), j < i + 1 → v[j] ≠ 13 ∧ v[j] ≠ 10 from fun hl j h hj => by
            by_cases e : j = i
            · subst e; exact hl
            · exact HJ.out.2.2 j h (by omega))
          have hu : ∀ (x : UInt8) (k : Nat), k < 256 → x.toNat ≠ k → x ≠ UInt8.ofNat k := by
            intro x k hk h e
            subst e
            rw [UInt8.toNat_ofNat'] at h
            omega
          have HU := Aside0.mk hu
          clear hu
          by_cases k1 : v[i].toNat = 13
          · have d1 : ((v[i].toNat : Int) == 13) = true := by rw [beq_iff_eq]; omega
            go_wp2_with (fail)
            go_ret
            exact ⟨rfl, HB1.out⟩
          · have d1 : ((v[i].toNat : Int) == 13) = false := by rw [beq_eq_false_iff_ne]; omega
            by_cases k2 : v[i].toNat = 10
            · have d2 : ((v[i].toNat : Int) == 10) = true := by rw [beq_iff_eq]; omega
              go_wp2_with (fail)
              go_ret
              exact ⟨rfl, HB1.out⟩
            · have d2 : ((v[i].toNat : Int) == 10) = false := by rw [beq_eq_false_iff_ne]; omega
              have hno : Aside0 (v[i] ≠ 13 ∧ v[i] ≠ 10) := ⟨HU.out _ 13 (by decide) k1, HU.out _ 10 (by decide) k2⟩
              clear k1 k2
              go_wp2_with (fail)
              obtain ⟨G, rfl⟩ : ∃ G, gk = G + 1 := ⟨gk - 1, by have := HJ.out; omega⟩
              go_roundg G
              case measure => omega
              case rel => exact ⟨rfl, i + 1, by go_num, ⟨by omega, by have := HJ.out.2.1; omega, HS.out hno.out⟩⟩
        · obtain rfl : i = v.size := by have := HJ.out.1; omega
          have hge : decide ((v.size : Int) < (v.size : Int)) = false := decide_eq_false (by omega)
          have HNO := Aside0.mk (fun j h => HJ.out.2.2 j h h)
          have hn0 : 0 < nm.size := by
            rcases Nat.eq_zero_or_pos nm.size with h | h
            · exfalso
              rw [Lib.size_eq] at h
              exact HL.out.2.1 (List.eq_nil_of_length_eq_zero h)
            · exact h
          by_cases k1 : nm.size = 14 ∧ (nm[0].toNat = 99 ∨ nm[0].toNat = 67)
          · have d1 : ((nm.size : Int) == 14) = true := by rw [beq_iff_eq]; omega
            rcases k1.2 with k2 | k2
            · have d2 : ((nm[0].toNat : Int) == 99) = true := by rw [beq_iff_eq]; omega
              clear k1 k2
              go_wp2_with (fail)
              go_ret
              exact ⟨rfl, HB1.out⟩
            · have d2 : ((nm[0].toNat : Int) == 99) = false := by rw [beq_eq_false_iff_ne]; omega
              have d3 : ((nm[0].toNat : Int) == 67) = true := by rw [beq_iff_eq]; omega
              clear k1 k2
              go_wp2_with (fail)
              go_ret
              exact ⟨rfl, HB1.out⟩
          · have HK := Aside0.mk k1
            have HF := Aside0.mk (others_feed nm.data.toList v.data.toList b HL.out.2.1 (by rw [← Lib.size_eq, ← Lib.size_eq]; have := HL.out.1; omega) (by have := HL.out.2.2; omega) (fun x hx => by
              obtain ⟨j, hj, rfl⟩ := List.getElem_of_mem hx
              have hj2 : j < nm.size := by rw [Lib.size_eq]; exact hj
              exact HLET.out j hj2) (fun x hx => by
              obtain ⟨j, hj, rfl⟩ := List.getElem_of_mem hx
              have hj2 : j < v.size := by rw [Lib.size_eq]; exact hj
              exact HNO.out j hj2) (by
              rw [← Lib.size_eq]
              have e : nm.data.toList.headD 0 = nm[0] := by
                rw [List.headD_eq_head?_getD, List.head?_eq_getElem?, List.getElem?_eq_getElem (by rw [← Lib.size_eq]; exact hn0)]
                rfl
              rw [e]
              exact HK.out))
            have HSH := Aside0.mk (Show_calls b.length wr (by have := HL.out.2.2; omega))
            obtain ⟨I, hI⟩ : ∃ I : ByteArray, ofL (itoa (b.length : Int)) = I := ⟨_, rfl⟩
            have hId : I.data.toList = decDigits b.length := by rw [← hI, itoa, if_neg (by omega)]; rfl
            have hIs : I.size ≤ 21 := by
              rw [Lib.size_eq, hId]
              have := decDigits_len 5 b.length (by have := HL.out.2.2; omega)
              omega
            rw [hI] at HSH
            have HId := Aside0.mk hId
            clear hI hId
            have hconv := fun (W : World) (s : ByteArray) => Lib.run_convert_string_bytes (P := Tryd.prog) W 9 22 5 s Tryd.underlying9 Tryd.underlying22 Tryd.underlying5
            by_cases k2 : nm.size = 14
            case' pos =>
              have d1 : ((nm.size : Int) == 14) = true := by rw [beq_iff_eq]; omega
              have d2 : ((nm[0].toNat : Int) == 99) = false := by rw [beq_eq_false_iff_ne]; omega
              have d3 : ((nm[0].toNat : Int) == 67) = false := by rw [beq_eq_false_iff_ne]; omega
              clear k1 k2
              go_wp2_with (fail)
            case' neg =>
              have d1 : ((nm.size : Int) == 14) = false := by rw [beq_eq_false_iff_ne]; omega
              clear k1 k2
              go_wp2_with (fail)
            all_goals
              refine HSH.out.mono ?_
              rintro e w3 ⟨rfl, hb3⟩
              have HB3 := Aside0.mk (below_step HB1.out hb3)
              clear hb3
              cases bh
              all_goals
                go_wp2_with (fail)
                refine (all_conv w3 _ _ (by simp only [ByteArray.size_append]; rfl) (by omega) A c b (TF_below HT.out HB3.out) (Kd.C_below HC.out.1 HB3.out) HC.out.2 (by have := HL.out.2.2; omega) (by
                  simp only [ByteArray.data_append, Array.toList_append, HId.out]
                  first | exact HF.out.1 | exact HF.out.2)).mono ?_
                rintro e w4 ⟨Av, cv, rfl, hl4, hC4, hb4⟩
                have H4 := Aside0.mk (And.intro hl4 hC4)
                have HB4 := Aside0.mk (below_step HB3.out hb4)
                clear hl4 hC4 hb4
                go_wp2_with (fail)
                have hb5 := below_alloc (Below.refl w4.heap.size w4) (.cells #[.slice A b.length c] 22)
                refine (SameRows_calls Av (some ⟨w4.heap.size, 0, none⟩) cv 1 1 [b] _ rfl (Kd.C_below H4.out.2 hb5) H4.out.1 (C_row1 _ _ A c b (World.cell?_alloc_mark _ _ _ _ 0) HC.out.2 (Kd.C_below HC.out.1 (below_step HB4.out hb5))) (Nat.le_refl _) (fun l hl => by have := HL.out.2.2; rw [List.mem_singleton.1 hl]; omega) (by decide)).mono ?_
                rintro e w6 ⟨rfl, hb6⟩
                have HB6 := Aside0.mk (below_step (below_step HB4.out hb5) hb6)
                clear hb5 hb6
                go_wp2_with (fail)
                go_ret
                exact ⟨rfl, HB6.out⟩
end Go.Proofs.YtomebmjjgkcjiaaDoor.G
