/-
  Plain laws: what the document's field and head, as printed, tell of a line and of a stream.
-/
import Derived.Test.YtomebmjjgkcjiaaGreatDoorFramePlain
import Derived.Test.YtomebmjjgkcjiaaGreatDoorPRfx1
import Derived.Test.YtomebmjjgkcjiaaGreatDoorFrameAll
set_option linter.unusedVariables false
namespace Go.Proofs.YtomebmjjgkcjiaaGreatDoor.G
open Go.RowKit Go.Proofs.YtomebmjjgkcjiaaGreatDoorW.PrintWords Go.Lib
theorem ev_step {α : Type} {g h : Nat → Option α} {r : α} (e : ∀ k, g (k + 1) = h k) (hh : Ev h r) : Ev g r := by
  obtain ⟨K, hK⟩ := hh
  refine ⟨K + 1, fun k hk => ?_⟩
  obtain ⟨m, rfl⟩ : ∃ m, k = m + 1 := ⟨k - 1, by omega⟩
  rw [e, hK m (by omega)]
theorem ev_stop {α : Type} {g : Nat → Option α} {r : α} (e : ∀ k, g (k + 1) = some r) : Ev g r := ev_step e (Ev.now r)
theorem rd_ints' (l : List UInt8) (i : Nat) (h : i < l.length) : rd (ints l) (i : Int) = (l[i].toNat : Int) := by
  unfold rd ints
  rw [Int.toNat_natCast, List.getD_eq_getElem?_getD, List.getElem?_map, List.getElem?_eq_getElem h]
  rfl
/-- A letter of a name. -/
def isL (b : UInt8) : Bool := decide (97 ≤ (lowB b).toNat ∧ (lowB b).toNat ≤ 122) || b == 45
theorem folded_f (b : UInt8) : PRf.parlanceref03_folded.f (b.toNat : Int) = some ((lowB b).toNat : Int) := by
  have hb := UInt8.toNat_lt b
  unfold PRf.parlanceref03_folded.f lowB
  by_cases h : 65 ≤ b.toNat ∧ b.toNat ≤ 90
  · rw [if_pos (by omega), if_pos (by omega), if_pos h]
    have : (b + 32).toNat = b.toNat + 32 := by rw [UInt8.toNat_add]; show (b.toNat + 32) % 256 = _; omega
    rw [this]
    congr 1
    omega
  · rw [if_neg h]
    by_cases h1 : 65 ≤ b.toNat
    · rw [if_pos (by omega), if_neg (by omega)]
    · rw [if_neg (by omega)]
theorem l4_ev (v : List UInt8) (hv : v.length ≤ 6) : ∀ (d i a : Nat), v.length - i = d → i ≤ v.length → a < 10 ^ i → Ev (fun k => PRf.parlanceref03_field.l4 k (ints v) a i) (if (v.drop i).all isDig = true then ((decV a (v.drop i) : Nat) : Int) else -2)
  | 0, i, a, hd, hi, ha => by
    refine ev_stop (fun k => ?_)
    rw [PRf.parlanceref03_field.l4]
    rw [ints_length, if_neg (by omega), List.drop_eq_nil_of_le (by omega)]
    simp [decV_nil]
  | d + 1, i, a, hd, hi, ha => by
    have hlt : i < v.length := by omega
    have hx := UInt8.toNat_lt v[i]
    have hp : 10 ^ i ≤ 10 ^ 6 := Nat.pow_le_pow_right (by decide) (by omega)
    have hp2 : (10 : Nat) ^ 6 = 1000000 := rfl
    rw [List.drop_eq_getElem_cons hlt, List.all_cons, decV_cons]
    by_cases h1 : v[i].toNat < 48
    · have hd1 : isDig v[i] = false := by simp [isDig]; omega
      rw [hd1, Bool.false_and, if_neg (by decide)]
      refine ev_stop (fun k => ?_)
      rw [PRf.parlanceref03_field.l4]
      rw [ints_length, if_pos (by omega), if_pos (by omega), rd_ints' v i hlt, if_pos (by omega)]
    · by_cases h2 : 57 < v[i].toNat
      · have hd1 : isDig v[i] = false := by simp [isDig]; omega
        rw [hd1, Bool.false_and, if_neg (by decide)]
        refine ev_stop (fun k => ?_)
        rw [PRf.parlanceref03_field.l4]
        rw [ints_length, if_pos (by omega), if_pos (by omega), rd_ints' v i hlt, if_neg (by omega), if_pos (by omega)]
      · have hd1 : isDig v[i] = true := by simp [isDig]; omega
        rw [hd1, Bool.true_and]
        have ih := l4_ev v hv d (i + 1) (a * 10 + (v[i].toNat - 48)) (by omega) (by omega) (by have h10 : 10 ^ (i + 1) = 10 ^ i * 10 := Nat.pow_succ 10 i; generalize 10 ^ i = Q at *; omega)
        refine ev_step (fun k => ?_) ih
        rw [PRf.parlanceref03_field.l4]
        rw [ints_length, if_pos (by omega), if_pos (by omega), rd_ints' v i hlt, if_neg (by omega), if_neg (by omega)]
        have e1 : wrap64 ((wrap64 ((wrap64 ((a : Int) * 10)) + (wrap64 (v[i].toNat : Int)))) - 48) = ((a * 10 + (v[i].toNat - 48) : Nat) : Int) := by
          have ha6 : a < 1000000 := Nat.lt_of_lt_of_le ha (hp2 ▸ hp)
          clear ha hp hp2 ih
          generalize v[i].toNat = x at *
          have w1 : wrap64 ((a : Int) * 10) = (a : Int) * 10 := by unfold wrap64; omega
          have w2 : wrap64 (x : Int) = (x : Int) := by unfold wrap64; omega
          have w3 : wrap64 ((a : Int) * 10 + (x : Int)) = (a : Int) * 10 + (x : Int) := by unfold wrap64; omega
          have w4 : wrap64 ((a : Int) * 10 + (x : Int) - 48) = (a : Int) * 10 + (x : Int) - 48 := by unfold wrap64; omega
          rw [w1, w2, w3, w4]
          omega
        have e2 : wrap64 ((i : Int) + 1) = ((i + 1 : Nat) : Int) := by unfold wrap64; omega
        rw [e1, e2]
/-- What is told of a value without spaces around it. -/
def numR (v : List UInt8) : Int := if v.length < 1 ∨ 6 < v.length then -2 else if v.all isDig = true then ((decV 0 v : Nat) : Int) else -2
theorem j7_ev (v : List UInt8) : Ev (fun k => PRf.parlanceref03_field.j7 k (ints v)) (numR v) := by
  unfold numR
  by_cases h1 : v.length < 1
  · rw [if_pos (.inl h1)]
    refine ev_step (h := fun k => PRf.parlanceref03_field.j8 k (ints v) true) (fun k => ?_) (ev_stop (fun k => ?_))
    · rw [PRf.parlanceref03_field.j7]
      rw [ints_length, if_pos (by omega)]
    · show PRf.parlanceref03_field.j8 (k + 1) (ints v) true = _
      rw [PRf.parlanceref03_field.j8, if_pos rfl]
  · by_cases h2 : 6 < v.length
    · rw [if_pos (.inr h2)]
      refine ev_step (h := fun k => PRf.parlanceref03_field.j8 k (ints v) true) (fun k => ?_) (ev_stop (fun k => ?_))
      · rw [PRf.parlanceref03_field.j7]
        rw [ints_length, if_neg (by omega), decide_eq_true (by omega)]
      · show PRf.parlanceref03_field.j8 (k + 1) (ints v) true = _
        rw [PRf.parlanceref03_field.j8, if_pos rfl]
    · rw [if_neg (by omega)]
      have h4 := l4_ev v (by omega) v.length 0 0 rfl (Nat.zero_le _) (by decide)
      rw [List.drop_zero] at h4
      refine ev_step (h := fun k => PRf.parlanceref03_field.j8 k (ints v) false) (fun k => ?_) (ev_step (fun k => ?_) h4)
      · rw [PRf.parlanceref03_field.j7]
        rw [ints_length, if_neg (by omega), decide_eq_false (by omega)]
      · rw [PRf.parlanceref03_field.j8]
        rw [if_neg (by decide)]
        rfl
abbrev sp : List UInt8 := [32, 9]
theorem sp_iff (b : UInt8) : sp.contains b = true ↔ b.toNat = 32 ∨ b.toNat = 9 := by
  constructor
  · intro h
    simp only [sp, List.contains_cons, List.contains_nil, Bool.or_false, Bool.or_eq_true, beq_iff_eq] at h
    rcases h with rfl | rfl <;> simp
  · intro h
    simp only [sp, List.contains_cons, List.contains_nil, Bool.or_false, Bool.or_eq_true, beq_iff_eq]
    rcases h with h | h
    · exact .inl (UInt8.toNat_inj.1 h)
    · exact .inr (UInt8.toNat_inj.1 h)
theorem trimR_snoc (u : List UInt8) (c : UInt8) : trimRightS (u ++ [c]) sp = if sp.contains c = true then trimRightS u sp else u ++ [c] := by
  unfold trimRightS
  rw [List.reverse_append, List.reverse_singleton, List.singleton_append, List.dropWhile_cons]
  split
  · rfl
  · rw [List.reverse_cons, List.reverse_reverse]
theorem trimR_nil : trimRightS [] sp = [] := rfl
theorem l3_ev : ∀ (n : Nat) (v : List UInt8), v.length < n → v.length < 4611686018427387904 → Ev (fun k => PRf.parlanceref03_field.l3 k (ints v)) (numR (trimRightS v sp))
  | 0, _, h, _ => absurd h (Nat.not_lt_zero _)
  | n + 1, v, h, hm => by
    rcases List.eq_nil_or_concat v with rfl | ⟨u, c, rfl⟩
    · refine ev_step (fun k => ?_) (j7_ev [])
      rw [PRf.parlanceref03_field.l3]
      rw [ints_length, if_neg (by simp)]
    · rw [List.concat_eq_append] at h hm ⊢
      have hl : (u ++ [c]).length = u.length + 1 := by simp
      rw [hl] at h hm
      have e0 : wrap64 (((u ++ [c]).length : Int) - 1) = (u.length : Int) := by rw [hl]; unfold wrap64; omega
      have er : rd (ints (u ++ [c])) ((u.length : Nat) : Int) = (c.toNat : Int) := by rw [rd_ints' _ _ (by rw [hl]; omega)]; simp
      have et : (ints (u ++ [c])).take ((u.length : Nat) : Int).toNat = ints u := by rw [Int.toNat_natCast, ← ints_take, List.take_left]
      rw [trimR_snoc]
      by_cases hc : sp.contains c = true
      · rw [if_pos hc]
        refine ev_step (fun k => ?_) (l3_ev n u (by omega) (by omega))
        rw [PRf.parlanceref03_field.l3]
        rw [ints_length, e0, if_pos (by rw [hl]; omega), if_pos (by omega), if_pos (by rw [hl]; omega), er, et]
        rcases (sp_iff c).1 hc with h2 | h2
        · rw [if_pos (by omega), if_pos (by rw [hl]; omega)]
        · rw [if_neg (by omega), if_pos (by omega), if_pos (by rw [hl]; omega)]
      · rw [if_neg hc]
        have hn : ¬ (c.toNat = 32 ∨ c.toNat = 9) := fun e => hc ((sp_iff c).2 e)
        refine ev_step (fun k => ?_) (j7_ev (u ++ [c]))
        rw [PRf.parlanceref03_field.l3]
        rw [ints_length, e0, if_pos (by rw [hl]; omega), if_pos (by omega), if_pos (by rw [hl]; omega), er, if_neg (by omega), if_neg (by omega)]
theorem trimL_cons (c : UInt8) (t : List UInt8) : trimLeftS (c :: t) sp = if sp.contains c = true then trimLeftS t sp else c :: t := by
  unfold trimLeftS
  rw [List.dropWhile_cons]
theorem l2_ev : ∀ (v : List UInt8), v.length < 4611686018427387904 → Ev (fun k => PRf.parlanceref03_field.l2 k (ints v)) (numR (trimRightS (trimLeftS v sp) sp))
  | [], _ => by
    refine ev_step (h := fun k => PRf.parlanceref03_field.j5 k (ints [])) (fun k => ?_) (ev_step (fun k => ?_) (l3_ev 1 [] (by simp) (by simp)))
    · rw [PRf.parlanceref03_field.l2]
      rw [ints_length, if_neg (by simp)]
    · rw [PRf.parlanceref03_field.j5]
  | c :: t, hm => by
    have er : rd (ints (c :: t)) 0 = (c.toNat : Int) := rfl
    have ed : (ints (c :: t)).drop 1 = ints t := rfl
    simp only [List.length_cons] at hm
    rw [trimL_cons]
    by_cases hc : sp.contains c = true
    · rw [if_pos hc]
      refine ev_step (fun k => ?_) (l2_ev t (by omega))
      rw [PRf.parlanceref03_field.l2]
      rw [ints_length, if_pos (by simp only [List.length_cons]; omega), if_pos (by simp only [List.length_cons]; omega), er, ed]
      rcases (sp_iff c).1 hc with h2 | h2
      · rw [if_pos (by omega), if_pos (by simp only [List.length_cons]; omega)]
      · rw [if_neg (by omega), if_pos (by omega), if_pos (by simp only [List.length_cons]; omega)]
    · rw [if_neg hc]
      have hn : ¬ (c.toNat = 32 ∨ c.toNat = 9) := fun e => hc ((sp_iff c).2 e)
      refine ev_step (h := fun k => PRf.parlanceref03_field.j5 k (ints (c :: t))) (fun k => ?_) (ev_step (fun k => ?_) (l3_ev ((c :: t).length + 1) (c :: t) (by omega) (by simp; omega)))
      · rw [PRf.parlanceref03_field.l2]
        rw [ints_length, if_pos (by simp only [List.length_cons]; omega), if_pos (by simp only [List.length_cons]; omega), er, if_neg (by omega), if_neg (by omega)]
      · rw [PRf.parlanceref03_field.j5]
/-- The two trims commute. -/
theorem trimR_cons (x : UInt8) (t : List UInt8) : trimRightS (x :: t) sp = if trimRightS t sp = [] ∧ sp.contains x = true then [] else x :: trimRightS t sp := by
  unfold trimRightS
  rw [List.reverse_cons, List.dropWhile_append]
  by_cases h : (t.reverse.dropWhile (sp.contains ·)) = []
  · rw [h]
    simp only [List.isEmpty_nil, if_true, List.reverse_nil, true_and]
    rw [List.dropWhile_cons]
    split
    · simp
    · simp
  · have hne : (t.reverse.dropWhile (sp.contains ·)).isEmpty = false := by
      cases hh : t.reverse.dropWhile (sp.contains ·) with
      | nil => exact absurd hh h
      | cons => rfl
    rw [hne, if_neg (by decide), if_neg (fun e => h (by have := e.1; rwa [List.reverse_eq_nil_iff] at this)), List.reverse_append]
    rfl
theorem trims_comm : ∀ v : List UInt8, trimRightS (trimLeftS v sp) sp = trimS v sp
  | [] => rfl
  | x :: t => by
    have ih := trims_comm t
    unfold trimS at ih ⊢
    rw [trimL_cons, trimR_cons]
    by_cases hx : sp.contains x = true
    · rw [if_pos hx, ih]
      by_cases he : trimRightS t sp = []
      · rw [if_pos ⟨he, hx⟩, he]
      · rw [if_neg (fun h => he h.1), trimL_cons, if_pos hx]
    · rw [if_neg hx, trimR_cons]
      rw [if_neg (fun h => hx h.2), trimL_cons, if_neg hx]
theorem numR_trim (v : List UInt8) : numR (trimS v sp) = match numV v with | none => -2 | some n => (n : Int) := by
  unfold numR numV
  show (if (trimS v [32, 9]).length < 1 ∨ 6 < (trimS v [32, 9]).length then (-2 : Int) else _) = _
  generalize trimS v [32, 9] = t
  by_cases h0 : t = []
  · subst h0; simp
  · have h1 : ¬ t.length < 1 := by
      have := List.length_pos_iff.2 h0
      omega
    by_cases h2 : 6 < t.length
    · rw [if_pos (.inr h2), if_pos (.inr (.inl h2))]
    · rw [if_neg (by omega)]
      by_cases h3 : t.all isDig = true
      · rw [if_pos h3, if_neg (by rintro (h | h | h); exact h0 h; exact h2 h; exact h h3)]
      · rw [if_neg h3, if_pos (.inr (.inr h3))]
def bad (b : UInt8) : Bool := b == 13 || b == 10
theorem containsAny_bad : ∀ v : List UInt8, containsAny v [13, 10] = v.any bad
  | [] => rfl
  | b :: v => by
    have ih := containsAny_bad v
    have hb : ([13, 10] : List UInt8).contains b = bad b := by
      unfold bad
      rw [Bool.eq_iff_iff]
      simp
    have hg := indexAny_ge [13, 10] v
    have hi : indexAny (b :: v) [13, 10] = if ([13, 10] : List UInt8).contains b then 0 else if indexAny v [13, 10] == -1 then -1 else indexAny v [13, 10] + 1 := rfl
    unfold containsAny at ih ⊢
    rw [List.any_cons, ← ih, hi, hb]
    cases hbb : bad b with
    | true => simp
    | false =>
      rw [if_neg (by decide), Bool.false_or]
      by_cases h : indexAny v [13, 10] = -1
      · rw [h]; rfl
      · have : (indexAny v [13, 10] == -1) = false := by rw [beq_eq_false_iff_ne]; exact h
        rw [this, if_neg (by decide), decide_eq_true (by omega), decide_eq_true (by omega)]
theorem l1_ev (nm v : List UInt8) (hm : v.length < 4611686018427387904) : ∀ (d i : Nat), v.length - i = d → i ≤ v.length → Ev (fun k => PRf.parlanceref03_field.l1 k (ints nm) (ints v) i) (if (v.drop i).any bad = true then -2 else if nm = lenName then numR (trimS v sp) else -1)
  | 0, i, hd, hi => by
    rw [List.drop_eq_nil_of_le (by omega)]
    have hs : (strOfNums (ints nm)).toList = nm := by rw [strOfNums_toList, bytes_ints]
    by_cases hn : nm = lenName
    · rw [if_neg (by decide), if_pos hn]
      have h2 := l2_ev v hm
      rw [trims_comm] at h2
      refine ev_step (fun k => ?_) h2
      rw [PRf.parlanceref03_field.l1]
      rw [ints_length, if_neg (by omega), hs]
      exact if_pos hn
    · rw [if_neg (by decide), if_neg hn]
      refine ev_stop (fun k => ?_)
      rw [PRf.parlanceref03_field.l1]
      rw [ints_length, if_neg (by omega), hs]
      exact if_neg hn
  | d + 1, i, hd, hi => by
    have hlt : i < v.length := by omega
    rw [List.drop_eq_getElem_cons hlt, List.any_cons]
    have e2 : wrap64 ((i : Int) + 1) = ((i + 1 : Nat) : Int) := by unfold wrap64; omega
    by_cases h13 : v[i] = 13
    · rw [h13, show bad 13 = true from rfl, Bool.true_or, if_pos rfl]
      refine ev_stop (fun k => ?_)
      rw [PRf.parlanceref03_field.l1]
      rw [ints_length, if_pos (by omega), if_pos (by omega), rd_ints' v i hlt, h13, if_pos (by decide)]
    · have n13 : ¬ ((v[i].toNat : Nat) : Int) = 13 := fun e => h13 (UInt8.toNat_inj.1 (show v[i].toNat = (13 : UInt8).toNat by have : (13 : UInt8).toNat = 13 := rfl; omega))
      by_cases h10 : v[i] = 10
      · rw [h10, show bad 10 = true from rfl, Bool.true_or, if_pos rfl]
        refine ev_stop (fun k => ?_)
        rw [PRf.parlanceref03_field.l1]
        rw [ints_length, if_pos (by omega), if_pos (by omega), rd_ints' v i hlt, if_neg n13, h10, if_pos (by decide)]
      · have n10 : ¬ ((v[i].toNat : Nat) : Int) = 10 := fun e => h10 (UInt8.toNat_inj.1 (show v[i].toNat = (10 : UInt8).toNat by have : (10 : UInt8).toNat = 10 := rfl; omega))
        have hb : bad v[i] = false := by unfold bad; simp [h13, h10]
        rw [hb, Bool.false_or]
        refine ev_step (fun k => ?_) (l1_ev nm v hm d (i + 1) (by omega) (by omega))
        rw [PRf.parlanceref03_field.l1]
        rw [ints_length, if_pos (by omega), if_pos (by omega), rd_ints' v i hlt, if_neg n13, if_neg n10, e2]
theorem tw_eq (p : UInt8 → Bool) : ∀ (a : List UInt8) (r : List UInt8), (∀ b ∈ a, p b = true) → (∀ c, r.head? = some c → p c = false) → (a ++ r).takeWhile p = a
  | [], r, _, h => by
    cases r with
    | nil => rfl
    | cons c t => rw [List.nil_append, List.takeWhile_cons, if_neg (by rw [h c rfl]; decide)]
  | b :: a, r, ha, h => by
    rw [List.cons_append, List.takeWhile_cons, if_pos (ha b (by simp)), tw_eq p a r (fun c hc => ha c (by simp [hc])) h]
/-- A line's leading letters. -/
def nameL (l : List UInt8) : List UInt8 := l.takeWhile isL
theorem l0_ev (l : List UInt8) (hm : l.length < 140737488355328) (R : Int) (hj : Ev (fun k => PRf.parlanceref03_field.j1 k (ints l) ((nameL l).length : Nat) (ints ((nameL l).map lowB))) R) :
    ∀ (d i : Nat), l.length - i = d → i ≤ l.length → (∀ b ∈ l.take i, isL b = true) → Ev (fun k => PRf.parlanceref03_field.l0 k (ints l) i (ints ((l.take i).map lowB))) R
  | 0, i, hd, hi, ha => by
    have hn : nameL l = l.take i := by
      have := tw_eq isL (l.take i) [] ha (fun c h => by cases h)
      rw [List.append_nil, List.take_of_length_le (by omega)] at this
      rw [List.take_of_length_le (by omega)]
      exact this
    have hnl : (nameL l).length = i := by rw [hn, List.length_take]; omega
    rw [hnl, hn] at hj
    refine ev_step (fun k => ?_) hj
    rw [PRf.parlanceref03_field.l0]
    rw [ints_length, if_neg (by omega)]
  | d + 1, i, hd, hi, ha => by
    have hlt : i < l.length := by omega
    have e2 : wrap64 ((i : Int) + 1) = ((i + 1 : Nat) : Int) := by unfold wrap64; omega
    have hnl0 : (ints ((l.take i).map lowB)).length = i := by rw [ints_length, List.length_map, List.length_take]; omega
    have htk : l.take (i + 1) = l.take i ++ [l[i]] := List.take_succ_eq_append_getElem hlt
    by_cases hL : isL l[i] = true
    · have ih := l0_ev l hm R hj d (i + 1) (by omega) (by omega) (fun b hb => by
        rw [htk] at hb
        rcases List.mem_append.1 hb with h | h
        · exact ha b h
        · rw [List.mem_singleton.1 h]; exact hL)
      have hap : ints ((l.take (i + 1)).map lowB) = ints ((l.take i).map lowB) ++ [((lowB l[i]).toNat : Int)] := by
        rw [htk, List.map_append, ints_append]
        rfl
      rw [hap] at ih
      refine ev_step (fun k => ?_) ih
      rw [PRf.parlanceref03_field.l0]
      rw [ints_length, if_pos (by omega), if_pos (by omega), rd_ints' l i hlt, folded_f, Option.bind_some, hnl0, e2]
      unfold isL at hL
      rw [Bool.or_eq_true, decide_eq_true_eq, beq_iff_eq] at hL
      by_cases h97 : 97 ≤ (lowB l[i]).toNat
      · rw [if_pos (by omega), Option.bind_some]
        by_cases h122 : (lowB l[i]).toNat ≤ 122
        · rw [if_pos (by omega), Option.bind_some, if_pos (by omega)]
        · rcases hL with hL | hL
          · omega
          · rw [hL] at h97
            exact absurd h97 (by decide)
      · rcases hL with hL | hL
        · omega
        · rw [if_neg (by omega), hL, if_pos (by decide), Option.bind_some, if_pos (by omega)]
    · have hn : nameL l = l.take i := by
        have := tw_eq isL (l.take i) (l.drop i) ha (fun c h => by
          rw [List.drop_eq_getElem_cons hlt] at h
          simp only [List.head?_cons, Option.some.injEq] at h
          rw [← h]
          simpa using hL)
        rw [List.take_append_drop] at this
        exact this
      have hnl : (nameL l).length = i := by rw [hn, List.length_take]; omega
      rw [hnl, hn] at hj
      refine ev_step (fun k => ?_) hj
      rw [PRf.parlanceref03_field.l0]
      rw [ints_length, if_pos (by omega), if_pos (by omega), rd_ints' l i hlt, folded_f, Option.bind_some]
      have hL2 : ¬ (97 ≤ (lowB l[i]).toNat ∧ (lowB l[i]).toNat ≤ 122) ∧ l[i] ≠ 45 := by
        unfold isL at hL
        rw [Bool.or_eq_true, decide_eq_true_eq, beq_iff_eq] at hL
        exact ⟨fun h => hL (.inl h), fun h => hL (.inr h)⟩
      have n45 : ¬ ((l[i].toNat : Nat) : Int) = 45 := fun e => hL2.2 (UInt8.toNat_inj.1 (show l[i].toNat = (45 : UInt8).toNat by have : (45 : UInt8).toNat = 45 := rfl; omega))
      by_cases h97 : 97 ≤ (lowB l[i]).toNat
      · rw [if_pos (by omega), Option.bind_some, if_neg (by omega), if_neg n45]
      · rw [if_neg (by omega), if_neg n45]
/-- What the document tells of a line: the length; -1: none; -2: it is no field. -/
def fieldV (l : List UInt8) : Int := if (fieldL l).2.2 = false then -2 else if (fieldL l).1 ≠ lenName then -1 else match numV (fieldL l).2.1 with | none => -2 | some n => (n : Int)
set_option maxRecDepth 100000 in
theorem isL_low (b : UInt8) : lets.contains (lowB b) = isL b := by
  have hd : ∀ n : Nat, n < 256 → lets.contains (lowB (UInt8.ofNat n)) = isL (UInt8.ofNat n) := by decide
  have := hd b.toNat (UInt8.toNat_lt b)
  simpa using this
theorem isL_58 {b : UInt8} (h : isL b = true) : b ≠ 58 := by
  rintro rfl
  exact absurd h (by decide)
theorem cut_spec (l : List UInt8) (h : (cut l [58]).2.2 = true) : l = (cut l [58]).1 ++ 58 :: (cut l [58]).2.1 := by
  unfold cut at h ⊢
  rcases index_spec l [58] with ⟨h1, _⟩ | ⟨i, h1, h2, h3, h4⟩
  · rw [h1] at h
    simp at h
  · rw [h1, if_pos (by omega)]
    simp only [Int.toNat_natCast, List.length_singleton]
    unfold occAt at h3
    rw [List.isPrefixOf_iff_prefix] at h3
    obtain ⟨t, ht⟩ := h3
    have hd : l.drop (i + 1) = t := by rw [← List.drop_drop, ← ht]; rfl
    rw [hd]
    conv => lhs; rw [← List.take_append_drop i l, ← ht]
    rfl
theorem field_bad (l : List UInt8) (h : ∀ v, l = nameL l ++ 58 :: v → nameL l = []) : (fieldL l).2.2 = false := by
  cases hf : (fieldL l).2.2 with
  | false => rfl
  | true =>
    exfalso
    unfold fieldL at hf
    simp only [Bool.and_eq_true, Bool.not_eq_true', decide_eq_false_iff_not, decide_eq_true_eq] at hf
    obtain ⟨⟨⟨h1, h2⟩, h3⟩, _⟩ := hf
    have hs := cut_spec l h1
    rw [trim_nil] at h3
    have hall : ∀ b ∈ (cut l [58]).1, isL b = true := fun b hb => by rw [← isL_low]; exact h3 _ (List.mem_map.2 ⟨b, hb, rfl⟩)
    have hn : nameL l = (cut l [58]).1 := by
      have := tw_eq isL (cut l [58]).1 (58 :: (cut l [58]).2.1) hall (fun c hc => by
        simp only [List.head?_cons, Option.some.injEq] at hc
        rw [← hc]
        decide)
      rw [← hs] at this
      exact this
    have := h (cut l [58]).2.1 (by rw [hn]; exact hs)
    rw [hn] at this
    rw [this] at h2
    exact h2 rfl
theorem field_ev (l : List UInt8) (hm : l.length < 140737488355328) : Ev (fun k => PRf.parlanceref03_field.f k (ints l)) (fieldV l) := by
  have hpre : nameL l ++ l.dropWhile isL = l := List.takeWhile_append_dropWhile
  have hall : ∀ b ∈ nameL l, isL b = true := fun b hb => by
    have := List.all_takeWhile (p := isL) (l := l)
    exact List.all_eq_true.1 this b hb
  have main : Ev (fun k => PRf.parlanceref03_field.j1 k (ints l) ((nameL l).length : Nat) (ints ((nameL l).map lowB))) (fieldV l) := by
    have hstop : (∀ k, PRf.parlanceref03_field.j1 (k + 1) (ints l) ((nameL l).length : Nat) (ints ((nameL l).map lowB)) = PRf.parlanceref03_field.j2 k (ints l) ((nameL l).length : Nat) (ints ((nameL l).map lowB)) true) → (fieldL l).2.2 = false → Ev (fun k => PRf.parlanceref03_field.j1 k (ints l) ((nameL l).length : Nat) (ints ((nameL l).map lowB))) (fieldV l) := by
      intro h1 h2
      have hv : fieldV l = -2 := by unfold fieldV; rw [if_pos h2]
      rw [hv]
      refine ev_step h1 (ev_stop (fun k => ?_))
      rw [PRf.parlanceref03_field.j2, if_pos rfl]
    by_cases hne : nameL l = []
    · refine hstop (fun k => ?_) (field_bad l (fun v _ => hne))
      rw [PRf.parlanceref03_field.j1]
      rw [hne, if_pos (by simp)]
    · have h0 : 0 < (nameL l).length := List.length_pos_iff.2 hne
      have hle : (nameL l).length ≤ l.length := by
        have := congrArg List.length hpre
        rw [List.length_append] at this
        omega
      by_cases hend : (nameL l).length = l.length
      · refine hstop (fun k => ?_) (field_bad l (fun v hv => by
          exfalso
          have := congrArg List.length hv
          rw [List.length_append, List.length_cons] at this
          omega))
        rw [PRf.parlanceref03_field.j1]
        rw [if_neg (by omega), ints_length, if_pos (by omega)]
      · have hlt : (nameL l).length < l.length := by omega
        have hrd := rd_ints' l (nameL l).length hlt
        have hdw : l.drop (nameL l).length = l.dropWhile isL := by
          have := List.drop_left (l₁ := nameL l) (l₂ := l.dropWhile isL)
          rw [hpre] at this
          exact this
        have hx : l.dropWhile isL = l[(nameL l).length] :: l.drop ((nameL l).length + 1) := by rw [← hdw]; exact List.drop_eq_getElem_cons hlt
        by_cases h58 : l[(nameL l).length] = 58
        · -- a field's name, and its value
          have hl : l = nameL l ++ 58 :: l.drop ((nameL l).length + 1) := by
            have := hpre
            rw [hx, h58] at this
            exact this.symm
          have hcut : cut l [58] = (nameL l, l.drop ((nameL l).length + 1), true) := by
            have := cut_at (nameL l) (l.drop ((nameL l).length + 1)) (fun b hb => isL_58 (hall b hb))
            rw [← hl] at this
            exact this
          have htr : trimS ((nameL l).map lowB) lets = [] := by
            rw [trim_nil]
            intro b hb
            obtain ⟨c, hc, rfl⟩ := List.mem_map.1 hb
            rw [isL_low]
            exact hall c hc
          have hne2 : ¬ (nameL l).map lowB = [] := by simpa using hne
          have hfl : fieldL l = ((nameL l).map lowB, l.drop ((nameL l).length + 1), !((l.drop ((nameL l).length + 1)).any bad)) := by
            unfold fieldL
            rw [hcut]
            simp only [htr, decide_eq_false hne2, containsAny_bad]
            rfl
          have hv : fieldV l = if (l.drop ((nameL l).length + 1)).any bad = true then -2 else if (nameL l).map lowB = lenName then numR (trimS (l.drop ((nameL l).length + 1)) sp) else -1 := by
            unfold fieldV
            rw [hfl, numR_trim]
            simp only
            cases (l.drop ((nameL l).length + 1)).any bad with
            | true => rfl
            | false =>
              by_cases hn : (nameL l).map lowB = lenName
              · rw [if_neg (by decide), if_neg (by simpa using hn), if_neg (by decide), if_pos hn]
              · rw [if_neg (by decide), if_pos hn, if_neg (by decide), if_neg hn]
          rw [hv]
          have h1 := l1_ev ((nameL l).map lowB) (l.drop ((nameL l).length + 1)) (by rw [List.length_drop]; omega) _ 0 rfl (Nat.zero_le _)
          rw [List.drop_zero] at h1
          have e2 : wrap64 (((nameL l).length : Int) + 1) = (((nameL l).length + 1 : Nat) : Int) := by unfold wrap64; omega
          refine ev_step (h := fun k => PRf.parlanceref03_field.j2 k (ints l) ((nameL l).length : Nat) (ints ((nameL l).map lowB)) false) (fun k => ?_) (ev_step (fun k => ?_) h1)
          · rw [PRf.parlanceref03_field.j1]
            rw [if_neg (by omega), ints_length, if_neg (by omega), if_pos (by omega), if_pos (by omega), hrd, h58]
            rfl
          · rw [PRf.parlanceref03_field.j2, if_neg (by decide), e2, if_pos (by omega), ints_length, if_pos (by omega), Int.toNat_natCast, ← ints_drop]
            rfl
        · refine hstop (fun k => ?_) (field_bad l (fun v hv => by
            exfalso
            have h1 : l.dropWhile isL = 58 :: v := by
              have : nameL l ++ l.dropWhile isL = nameL l ++ 58 :: v := by rw [hpre]; exact hv
              exact List.append_cancel_left this
            rw [hx] at h1
            exact h58 (List.cons.inj h1).1))
          have n58 : (((l[(nameL l).length].toNat : Nat) : Int) != 58) = true := by
            rw [bne_iff_ne]
            exact fun e => h58 (UInt8.toNat_inj.1 (show l[(nameL l).length].toNat = (58 : UInt8).toNat by have : (58 : UInt8).toNat = 58 := rfl; omega))
          rw [PRf.parlanceref03_field.j1]
          rw [if_neg (by omega), ints_length, if_neg (by omega), if_pos (by omega), if_pos (by omega), hrd, n58]
  have := l0_ev l hm _ main l.length 0 rfl (Nat.zero_le _) (by simp)
  exact this
end Go.Proofs.YtomebmjjgkcjiaaGreatDoor.G
