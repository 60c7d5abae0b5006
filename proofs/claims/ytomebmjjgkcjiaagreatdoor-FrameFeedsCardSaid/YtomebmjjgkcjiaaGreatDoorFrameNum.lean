/-
  Plain facts: a number in a head's field; a head's length.
-/
import Derived.Test.YtomebmjjgkcjiaaGreatDoorFrameLen
namespace Go.Proofs.YtomebmjjgkcjiaaGreatDoor.G
open Go.Lib
/-- The digits' number. -/
def decV (a : Nat) (l : List UInt8) : Nat := l.foldl (fun n b => n * 10 + (b.toNat - 48)) a
theorem decV_nil (a : Nat) : decV a [] = a := rfl
theorem decV_cons (a : Nat) (b : UInt8) (l : List UInt8) : decV a (b :: l) = decV (a * 10 + (b.toNat - 48)) l := List.foldl_cons ..
def isDig (b : UInt8) : Bool := decide (48 ≤ b.toNat) && decide (b.toNat ≤ 57)
set_option maxRecDepth 100000 in
theorem digs_contains (b : UInt8) : digs.contains b = isDig b := by
  have h : ∀ n : Nat, n < 256 → digs.contains (UInt8.ofNat n) = isDig (UInt8.ofNat n) := by decide
  have := h b.toNat (UInt8.toNat_lt b)
  simpa using this
theorem dw_nil (p : UInt8 → Bool) : ∀ l : List UInt8, l.dropWhile p = [] ↔ ∀ b ∈ l, p b = true
  | [] => by simp
  | a :: l => by
    rw [List.dropWhile_cons]
    by_cases h : p a = true
    · rw [if_pos h, dw_nil p l]
      simp [h]
    · rw [if_neg h]
      constructor
      · intro e; cases e
      · intro e; exact absurd (e a (by simp)) h
theorem trim_nil (l cs : List UInt8) : trimS l cs = [] ↔ ∀ b ∈ l, cs.contains b = true := by
  unfold trimS trimLeftS trimRightS
  constructor
  · intro h
    rw [dw_nil] at h
    have h2 : l.reverse.dropWhile (cs.contains ·) = [] := by
      cases hd : l.reverse.dropWhile (cs.contains ·) with
      | nil => rfl
      | cons a t =>
        exfalso
        have hn := List.head?_dropWhile_not (cs.contains ·) l.reverse
        rw [hd] at hn h
        simp only [List.head?_cons] at hn
        have := h a (by simp)
        simp only [this] at hn
        cases hn
    rw [dw_nil] at h2
    intro b hb
    exact h2 b (List.mem_reverse.2 hb)
  · intro h
    have h2 : l.reverse.dropWhile (cs.contains ·) = [] := by
      rw [dw_nil]
      intro b hb
      exact h b (List.mem_reverse.1 hb)
    rw [h2]
    rfl
theorem isDig_iff {b : UInt8} (h : isDig b = true) : 48 ≤ b.toNat ∧ b.toNat ≤ 57 := by
  unfold isDig at h
  simpa using h
theorem decFrom_digs (l : List UInt8) : ∀ (a : Nat), (∀ b ∈ l, isDig b = true) → decFrom a l = some (decV a l) := by
  induction l with
  | nil => intro a _; rfl
  | cons b l ih =>
    intro a h
    have hb := isDig_iff (h b (List.mem_cons_self ..))
    have hd : digitVal b = some (b.toNat - 48) := by unfold digitVal; rw [if_pos hb]
    rw [decV_cons]
    simp only [decFrom, hd]
    exact ih _ (fun c hc => h c (List.mem_cons_of_mem _ hc))
theorem decV_bound (l : List UInt8) : ∀ (a : Nat), (∀ b ∈ l, isDig b = true) → decV a l < (a + 1) * 10 ^ l.length := by
  induction l with
  | nil => intro a _; rw [decV_nil]; simp
  | cons b l ih =>
    intro a h
    have hb := h b (by simp)
    unfold isDig at hb
    simp only [Bool.and_eq_true, decide_eq_true_eq] at hb
    rw [decV_cons]
    have := ih (a * 10 + (b.toNat - 48)) (fun c hc => h c (List.mem_cons_of_mem _ hc))
    rw [List.length_cons, Nat.pow_succ']
    refine Nat.lt_of_lt_of_le this ?_
    rw [← Nat.mul_assoc]
    exact Nat.mul_le_mul_right _ (by omega)
/-- A field's number. -/
def numV (l : List UInt8) : Option Nat :=
  if trimS l [32, 9] = [] ∨ 6 < (trimS l [32, 9]).length ∨ ¬ (trimS l [32, 9]).all isDig = true then none else some (decV 0 (trimS l [32, 9]))
theorem atoi_digs (l : List UInt8) (hne : l ≠ []) (h : ∀ b ∈ l, isDig b = true) : atoi l = some (decV 0 l : Nat) := by
  obtain ⟨b, r, rfl⟩ : ∃ b t, l = b :: t := by cases l with | nil => exact absurd rfl hne | cons b t => exact ⟨b, t, rfl⟩
  have hb := h b (by simp)
  unfold isDig at hb
  simp only [Bool.and_eq_true, decide_eq_true_eq] at hb
  have n1 : ¬ b = 45 := by rintro rfl; simp at hb
  have n2 : ¬ b = 43 := by rintro rfl; simp at hb
  simp only [atoi, beq_iff_eq, if_neg n1, if_neg n2, decNat, List.isEmpty_cons]
  rw [decFrom_digs _ 0 h]
  rfl
theorem numL_eq (l : List UInt8) : numL l = some (match numV l with | none => (0, false) | some n => ((n : Int), true)) := by
  unfold numL numV
  simp only
  generalize trimS l [32, 9] = t
  have e : (trimS t digs ≠ []) = ¬ t.all isDig = true := by
    apply propext
    rw [Ne, trim_nil, List.all_eq_true]
    simp only [digs_contains]
  simp only [e]
  split
  · rename_i h
    rfl
  · rename_i h
    have h1 : t ≠ [] := fun e => h (.inl e)
    have h3 : ∀ b ∈ t, isDig b = true := by
      have : t.all isDig = true := by
        cases hc : t.all isDig with
        | true => rfl
        | false => exact absurd (.inr (.inr (by rw [hc]; simp))) h
      exact List.all_eq_true.1 this
    rw [atoi_digs t h1 h3]
    rfl
theorem numV_bound (l : List UInt8) (n : Nat) (h : numV l = some n) : n < 1000000 := by
  unfold numV at h
  split at h
  · cases h
  · rename_i hc
    cases h
    have h3 : ∀ b ∈ trimS l [32, 9], isDig b = true := by
      have : (trimS l [32, 9]).all isDig = true := by
        cases hc2 : (trimS l [32, 9]).all isDig with
        | true => rfl
        | false => exact absurd (.inr (.inr (by rw [hc2]; simp))) hc
      exact List.all_eq_true.1 this
    have := decV_bound _ 0 h3
    have hl : (trimS l [32, 9]).length ≤ 6 := by
      by_cases c : 6 < (trimS l [32, 9]).length
      · exact absurd (.inr (.inl c)) hc
      · omega
    have := Nat.pow_le_pow_right (n := 10) (by decide) hl
    omega
def lenName : List UInt8 := [99, 111, 110, 116, 101, 110, 116, 45, 108, 101, 110, 103, 116, 104]
/-- What a line makes of the length that the lines ahead tell (-1: none yet); none: it isn't made as told. -/
def lenStep (f : Int) (x : List UInt8) : Option Int :=
  if (fieldL x).2.2 = false then none else if (fieldL x).1 ≠ lenName then some f else
  match numV (fieldL x).2.1 with
  | none => none
  | some n => if 0 ≤ f then none else some n
def lenGo : Int → List (List UInt8) → Option Int
  | f, [] => some f
  | f, x :: xs => match lenStep f x with
    | none => none
    | some g => lenGo g xs
theorem lenGo_snoc : ∀ (xs : List (List UInt8)) (f : Int) (x : List UInt8), lenGo f (xs ++ [x]) = match lenGo f xs with | none => none | some g => lenStep g x
  | [], f, x => by
    simp only [List.nil_append, lenGo]
    cases lenStep f x <;> rfl
  | y :: xs, f, x => by
    simp only [List.cons_append, lenGo]
    cases lenStep f y with
    | none => rfl
    | some g => exact lenGo_snoc xs g x
theorem lenGo_stop : ∀ (xs ys : List (List UInt8)) (f : Int), lenGo f xs = none → lenGo f (xs ++ ys) = none
  | [], ys, f, h => by cases h
  | x :: xs, ys, f, h => by
    simp only [List.cons_append, lenGo] at h ⊢
    cases hx : lenStep f x with
    | none => rfl
    | some g => rw [hx] at h; exact lenGo_stop xs ys g h
/-- The length that a head tells, and the error. -/
def lenOf (l : List UInt8) : Int × Int :=
  match lenGo (-1) (splitC (trimSuffix l [13, 10, 13, 10])) with
  | none => (0, 30)
  | some f => if f < 0 then (0, 30) else if 65536 < f then (0, 31) else (f, 0)
end Go.Proofs.YtomebmjjgkcjiaaGreatDoor.G
