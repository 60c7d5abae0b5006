/-
  Plain facts: a text is the bytes of its runes; its units; its places. No program in sight.
-/
import Derived.Test.YtjffpcjbbehooaaDoorUtfBase
import Derived.Test.YtjffpcjbbehooaaDoorPlaces
import Derived.Test.YtjffpcjbbehooaaDoorWWords
namespace Go.Proofs.YtjffpcjbbehooaaDoor.G
open Go.Lib
/-- The bytes of runes. -/
def enc (rs : List Int) : List UInt8 := rs.flatMap encodeRune
@[simp] theorem enc_nil : enc [] = [] := rfl
theorem enc_cons (r : Int) (rs : List Int) : enc (r :: rs) = encodeRune r ++ enc rs := by simp [enc]
theorem enc_append (xs ys : List Int) : enc (xs ++ ys) = enc xs ++ enc ys := by simp [enc]
def allR (rs : List Int) : Prop := ∀ r ∈ rs, okR r
instance (rs : List Int) : Decidable (allR rs) := by unfold allR; infer_instance
theorem allR_nil : allR [] := fun _ h => by cases h
theorem allR_cons {r : Int} {rs : List Int} : allR (r :: rs) ↔ okR r ∧ allR rs := by simp [allR]
theorem allR_append {xs ys : List Int} : allR (xs ++ ys) ↔ allR xs ∧ allR ys := by
  unfold allR
  constructor
  · exact fun h => ⟨fun r hr => h r (by simp [hr]), fun r hr => h r (by simp [hr])⟩
  · rintro ⟨h1, h2⟩ r hr
    rcases List.mem_append.1 hr with h | h
    · exact h1 r h
    · exact h2 r h
theorem encode_ne (r : Int) : encodeRune r ≠ [] := by
  intro h
  have := (encode_length r).1
  rw [h] at this
  simp at this
theorem drop_encode (r : Int) (h : okR r) (t : List UInt8) : (encodeRune r ++ t).drop (decodeL (encodeRune r ++ t)).2 = t := by
  rw [decode_encode r h t]
  simp
theorem valid_encode (r : Int) (h : okR r) (t : List UInt8) : validD (encodeRune r ++ t) = validD t := by
  rw [valid_good _ (by simp [encode_ne r]) (encode_not_bad r h t), drop_encode r h t]
theorem runes_encode (r : Int) (h : okR r) (t : List UInt8) : runes (encodeRune r ++ t) = r :: runes t := by
  rw [runes_step _ (by simp [encode_ne r]), drop_encode r h t, decode_encode r h t]
  have := h.1
  simp only [List.cons.injEq, and_true]
  omega
theorem valid_enc : ∀ (rs : List Int) (_ : allR rs) (t : List UInt8), validD (enc rs ++ t) = validD t
  | [], _, _ => rfl
  | r :: rs, h, t => by
    rw [enc_cons, List.append_assoc, valid_encode r (allR_cons.1 h).1, valid_enc rs (allR_cons.1 h).2 t]
theorem runes_enc : ∀ (rs : List Int) (_ : allR rs) (t : List UInt8), runes (enc rs ++ t) = rs ++ runes t
  | [], _, _ => rfl
  | r :: rs, h, t => by
    rw [enc_cons, List.append_assoc, runes_encode r (allR_cons.1 h).1, runes_enc rs (allR_cons.1 h).2 t]
    rfl
theorem valid_nil : validD [] = true := rfl
theorem valid_enc' (rs : List Int) (h : allR rs) : validD (enc rs) = true := by
  have := valid_enc rs h []
  rwa [List.append_nil, valid_nil] at this
theorem runes_enc' (rs : List Int) (h : allR rs) : runes (enc rs) = rs := by
  have := runes_enc rs h []
  rwa [List.append_nil, runes_nil, List.append_nil] at this
/-- What stands behind the runes at the front. -/
def Stuck (t : List UInt8) : Prop := t = [] ∨ (t ≠ [] ∧ Bad t)
theorem split_front : ∀ (n : Nat) (l : List UInt8), l.length ≤ n → ∃ rs t, l = enc rs ++ t ∧ allR rs ∧ Stuck t
  | 0, l, h => ⟨[], [], by simpa using List.eq_nil_of_length_eq_zero (by omega), allR_nil, .inl rfl⟩
  | n + 1, l, h => by
    by_cases c : l = []
    · exact ⟨[], [], by simp [c], allR_nil, .inl rfl⟩
    by_cases b : Bad l
    · exact ⟨[], l, by simp, allR_nil, .inr ⟨c, b⟩⟩
    have hw := decodeL_width l
    have hp : 0 < l.length := List.length_pos_iff.2 c
    obtain ⟨rs, t, e, ha, hs⟩ := split_front n (l.drop (decodeL l).2) (by rw [List.length_drop]; omega)
    refine ⟨((decodeL l).1 : Int) :: rs, t, ?_, allR_cons.2 ⟨good_rune l c b, ha⟩, hs⟩
    rw [enc_cons, List.append_assoc, ← e, ← good_take l c b, List.take_append_drop]
theorem split_text (l : List UInt8) : ∃ rs t, l = enc rs ++ t ∧ allR rs ∧ Stuck t := split_front l.length l (Nat.le_refl _)
theorem valid_stuck {t : List UInt8} (h : Stuck t) : validD t = true ↔ t = [] := by
  rcases h with h | ⟨h, b⟩
  · subst h; simp [valid_nil]
  · rw [valid_bad t h b]; simp [h]
/-- A text that is valid is the bytes of its runes. -/
theorem text_enc (l : List UInt8) (h : validD l = true) : l = enc (runes l) ∧ allR (runes l) := by
  obtain ⟨rs, t, rfl, ha, hs⟩ := split_text l
  rw [valid_enc rs ha] at h
  obtain rfl := (valid_stuck hs).1 h
  rw [List.append_nil, runes_enc' rs ha]
  exact ⟨rfl, ha⟩
theorem encode_len_eq (r : Int) (h : okR r) : (encodeRune r).length = if r < 128 then 1 else if r < 2048 then 2 else if r < 65536 then 3 else 4 := by
  obtain ⟨h0, h1, h2⟩ := h
  unfold encodeRune
  rw [List.length_map]
  split
  · rw [encodeRuneZ_one h0 (by omega)]; rfl
  split
  · rw [encodeRuneZ_two (by omega) (by omega)]; rfl
  split
  · rw [encodeRuneZ_three (by omega)]; rfl
  · rw [encodeRuneZ_four (by omega) h1]; rfl
theorem encodeZ_len (r : Int) : (encodeRuneZ r).length = (encodeRune r).length := by simp [encodeRune]
/-- A rune's units. -/
def unitsR (r : Int) : List Int := if r < 65536 then [r] else [55296 + (r - 65536) / 1024, 56320 + (r - 65536) % 1024]
theorem unitsR_len (r : Int) (h : 0 ≤ r) : (unitsR r).length = unitW r.toNat := by
  unfold unitsR unitW
  split
  · rw [if_neg (by omega)]; rfl
  · rw [if_pos (by omega)]; rfl
theorem unitsR_le (r : Int) : 1 ≤ (unitsR r).length ∧ (unitsR r).length ≤ 2 := by unfold unitsR; split <;> simp
/-- The units of runes. -/
def units (rs : List Int) : List Int := rs.flatMap unitsR
theorem units_cons (r : Int) (rs : List Int) : units (r :: rs) = unitsR r ++ units rs := by simp [units]
theorem units_append (xs ys : List Int) : units (xs ++ ys) = units xs ++ units ys := by simp [units]
theorem counts : ∀ (rs : List Int), allR rs → rs.length ≤ (units rs).length ∧ (units rs).length ≤ (enc rs).length ∧ (enc rs).length ≤ 3 * (units rs).length
  | [], _ => by simp [units]
  | r :: rs, h => by
    have ih := counts rs (allR_cons.1 h).2
    have hr := (allR_cons.1 h).1
    have he := encode_len_eq r hr
    rw [units_cons, enc_cons, List.length_append, List.length_append, List.length_cons]
    have hu : (unitsR r).length = if r < 65536 then 1 else 2 := by unfold unitsR; split <;> rfl
    split at hu <;> (repeat' split at he) <;> omega
theorem units_len (rs : List Int) : (units rs).length ≤ 2 * rs.length := by
  induction rs with
  | nil => simp [units]
  | cons r rs ih => rw [units_cons, List.length_append, List.length_cons]; have := unitsR_le r; omega
/-- The places, out of the runes. -/
def placesR : Nat → Nat → List Int → List (Nat × Nat)
  | a, u, [] => [(a, u)]
  | a, u, r :: rs => (a, u) :: placesR (a + (encodeRune r).length) (u + (unitsR r).length) rs
theorem places_enc : ∀ (rs : List Int), allR rs → ∀ a u, placesFrom a u (enc rs) = placesR a u rs
  | [], _, a, u => placesFrom_nil a u
  | r :: rs, h, a, u => by
    have hr := (allR_cons.1 h).1
    rw [enc_cons, placesFrom_step _ _ _ (by simp [encode_ne r]), drop_encode r hr, decode_encode r hr, places_enc rs (allR_cons.1 h).2]
    simp only [placesR, unitsR_len r hr.1]
theorem places_of_text (l : List UInt8) (h : validD l = true) : places l = placesR 0 0 (runes l) := by
  obtain ⟨e, ha⟩ := text_enc l h
  have := places_enc (runes l) ha 0 0
  rwa [← e] at this
theorem placesR_ge : ∀ (rs : List Int) (a u : Nat) (p : Nat × Nat), p ∈ placesR a u rs → a ≤ p.1 ∧ u ≤ p.2
  | [], a, u, p, h => by simp [placesR] at h; subst h; simp
  | r :: rs, a, u, p, h => by
    simp only [placesR, List.mem_cons] at h
    rcases h with rfl | h
    · simp
    · have := placesR_ge rs _ _ p h
      omega
theorem placesR_le : ∀ (rs : List Int) (a u : Nat) (p : Nat × Nat), p ∈ placesR a u rs → p.1 ≤ a + (enc rs).length
  | [], a, u, p, h => by simp [placesR] at h; subst h; simp
  | r :: rs, a, u, p, h => by
    simp only [placesR, List.mem_cons] at h
    rw [enc_cons, List.length_append]
    rcases h with rfl | h
    · simp only; omega
    · have := placesR_le rs _ _ p h
      omega
/-- Places rise in both. -/
theorem placesR_rise : ∀ (rs : List Int) (a u : Nat) (p q : Nat × Nat), p ∈ placesR a u rs → q ∈ placesR a u rs → (p = q) ∨ (p.1 < q.1 ∧ p.2 < q.2) ∨ (q.1 < p.1 ∧ q.2 < p.2)
  | [], a, u, p, q, hp, hq => by simp [placesR] at hp hq; subst hp; subst hq; exact .inl rfl
  | r :: rs, a, u, p, q, hp, hq => by
    simp only [placesR, List.mem_cons] at hp hq
    have h1 := (encode_length r).1
    have h2 := (unitsR_le r).1
    rcases hp with rfl | hp <;> rcases hq with rfl | hq
    · exact .inl rfl
    · have := placesR_ge rs _ _ q hq
      exact .inr (.inl (by simp only; omega))
    · have := placesR_ge rs _ _ p hp
      exact .inr (.inr (by simp only; omega))
    · exact placesR_rise rs _ _ p q hp hq
theorem offsetOf_some (l : List UInt8) (x : Int) : (∃ p ∈ places l, (p.2 : Int) = x ∧ offsetOf l x = ((p.1 : Int), 0)) ∨ ((∀ p ∈ places l, (p.2 : Int) ≠ x) ∧ offsetOf l x = (0, 70)) := by
  unfold offsetOf
  cases h : (places l).find? (fun p => (p.2 : Int) == x) with
  | some p =>
    have h2 := List.find?_some h
    exact .inl ⟨p, List.mem_of_find?_eq_some h, by simpa using h2, rfl⟩
  | none => exact .inr ⟨fun p hp => by simpa using List.find?_eq_none.1 h p hp, rfl⟩
/-- The text of runes, and the error. -/
def textOf (rs : List Int) : ByteArray × Int := if allR rs then (strOfNums (rs.flatMap encodeRuneZ), 0) else (⟨#[]⟩, 40)
/-- Runes out of units. -/
def joinOf : List Int → Option (List Int)
  | [] => some []
  | [u] => if 55296 ≤ u ∧ u ≤ 56319 then none else if okR u ∧ u < 65536 then some [u] else none
  | u :: v :: rest =>
    if 55296 ≤ u ∧ u ≤ 56319 then (if 56320 ≤ v ∧ v ≤ 57343 then (joinOf rest).map (fun x => (65536 + (u - 55296) * 1024 + v - 56320) :: x) else none)
    else if okR u ∧ u < 65536 then (joinOf (v :: rest)).map (fun x => u :: x) else none
end Go.Proofs.YtjffpcjbbehooaaDoor.G
