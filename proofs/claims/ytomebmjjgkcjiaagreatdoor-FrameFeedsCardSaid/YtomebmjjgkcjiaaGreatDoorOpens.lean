/-
  What a row's argument reads as, in the printer's kinds: numbers, texts, structs of these, slices of these, in any depth. No program in sight.
-/
import Derived.Test.YtomebmjjgkcjiaaGreatDoorWWords
import Derived.SizedLaws
import Derived.ChangeArms
import Derived.DataElems
namespace Go.Proofs.YtomebmjjgkcjiaaGreatDoor.G
open Go.RowKit Go.Proofs.YtomebmjjgkcjiaaGreatDoorW.PrintWords
/-- What is read as data of type t, within so many steps, is a value of the kind; and it is in bounds. -/
def OpensAt {α : Type} (P : Program) (n : Nat) (t : TypeId) (d : Kd α) (ok : α → Prop) : Prop :=
  ∀ {H : Type} (enc : TypeId × Value → H) (w : World) (held : Bool) (cs : List Value) (x : DataW H × List MemPlace),
    DataW.trod enc P w 0 (fun _ => true) held n t cs = some x → (DataW.weights P t x.1).all (· ≤ reachBytes) = true → ∃ v, d.K w v cs ∧ ok v
section
variable {P : Program} {t e : TypeId} {n : Nat}
theorem opens_int {k : IntKind} (ht : P.underlying t = some (.int k)) : OpensAt P n t (Kd.int k) (fun x => (Lit.int k x).wf = true) := by
  intro H enc w held cs x h _
  obtain ⟨m, rfl, _, hw⟩ := DataW.trod_int ht h
  exact ⟨m, rfl, hw⟩
theorem opens_bool (ht : P.underlying t = some .bool) : OpensAt P n t Kd.bool (fun _ => True) := by
  intro H enc w held cs x h _
  obtain ⟨b, rfl, _⟩ := DataW.trod_bool ht h
  exact ⟨b, rfl, trivial⟩
theorem opens_string (ht : P.underlying t = some .string) : OpensAt P n t Kd.string (fun s => s.size ≤ 140737488351232) := by
  intro H enc w held cs x h hz
  obtain ⟨s, rfl, rfl, _⟩ := DataW.trod_string ht h
  refine ⟨s, rfl, ?_⟩
  simp only [DataW.weights, List.all_cons, List.all_nil, Bool.and_true, decide_eq_true_eq, Array.length_toList] at hz
  exact hz
theorem list_of_lt {β : Type} {Q : Nat → β → Prop} : ∀ (n : Nat), (∀ i, i < n → ∃ v, Q i v) → ∃ vs : List β, vs.length = n ∧ ∀ i v, vs[i]? = some v → Q i v
  | 0, _ => ⟨[], rfl, fun i v h => by simp at h⟩
  | n + 1, h => by
    obtain ⟨vs, hl, hv⟩ := list_of_lt n (fun i hi => h i (by omega))
    obtain ⟨v, hq⟩ := h n (by omega)
    refine ⟨vs ++ [v], by simp [hl], fun i u hu => ?_⟩
    by_cases hi : i < vs.length
    · rw [List.getElem?_append_left hi] at hu
      exact hv i u hu
    · rw [List.getElem?_append_right (by omega)] at hu
      by_cases h0 : i - vs.length = 0
      · rw [h0] at hu
        simp at hu
        subst hu
        rw [show i = n by omega]
        exact hq
      · rw [List.getElem?_eq_none (by simp; omega)] at hu
        cases hu
theorem weightsAll_mem {H : Type} : ∀ (ds : List (DataW H)) (d : DataW H), d ∈ ds → ∀ z ∈ d.weights P e, z ∈ DataW.weightsAll P e ds
  | [], d, h, _, _ => by cases h
  | c :: ds, d, h, z, hz => by
    simp only [DataW.weightsAll, List.mem_append]
    rcases List.mem_cons.1 h with rfl | h
    · exact .inl hz
    · exact .inr (weightsAll_mem ds d h z hz)
theorem opens_slice {α : Type} {d : Kd α} {ok : α → Prop} {B : Nat} (q : Nat) (ht : P.underlying t = some (.slice e)) (hc : P.cellsOf e = d.sz) (hB : P.bytesOf e = B) (he : ∀ m, m < n → OpensAt P m e d ok) :
    OpensAt P n t (Kd.slice q d) (fun xs => xs.length ≤ maxLen ∧ xs.length * B ≤ 140737488351232 ∧ ∀ y ∈ xs, ok y) := by
  intro H enc w held cs x h hz
  rcases DataW.trod_slice ht h with ⟨rfl, rfl⟩ | ⟨a, len, cap, elems, rest, m, rfl, rfl, rfl, hb, hl, hm, hlen, hel, _, _⟩
  · exact ⟨[], ⟨none, 0, rfl, Nat.le_refl _, rfl, by simp, fun h => absurd h (by simp)⟩, by simp, by simp, by simp⟩
  · simp only [DataW.weights, ht, List.all_cons, List.all_append, List.length_map, Bool.and_eq_true, decide_eq_true_eq] at hz
    have hel2 : ∀ i, i < len → ∃ v, ∃ c, w.cells? 0 (a.add (i * P.cellsOf e)) (P.cellsOf e) = some c ∧ d.K w v c ∧ ok v := by
      intro i hi
      have h1 := hel i hi
      obtain ⟨y, hy⟩ : ∃ y, elems[i]? = some y := ⟨_, List.getElem?_eq_getElem (by omega)⟩
      rw [hy, Option.bind_eq_some_iff] at h1
      obtain ⟨c, hc1, hc2⟩ := h1
      have hall : (DataW.weights P e y.1).all (· ≤ reachBytes) = true := by
        rw [List.all_eq_true]
        intro z hz2
        have hmem := weightsAll_mem (P := P) (e := e) (elems.map (·.1)) y.1 (List.mem_map.2 ⟨y, List.mem_of_getElem? hy, rfl⟩) z hz2
        exact List.all_eq_true.1 hz.2.1 z hmem
      obtain ⟨v, hv, ho⟩ := he m (by omega) enc w held c y hc2 hall
      exact ⟨v, c, hc1, hv, ho⟩
    obtain ⟨vs, hvl, hvs⟩ := list_of_lt len hel2
    refine ⟨vs, ⟨some a, cap, by rw [hvl], by omega, hvl ▸ rfl, by rw [hvl]; have := Nat.le_trans hl hm; unfold maxLen at this; omega, fun _ => ⟨a, rfl, fun j p hj => ?_⟩⟩, by omega, ?_, fun y hy => ?_⟩
    · obtain ⟨c, h1, h2, _⟩ := hvs j p hj
      refine ⟨c, d.K_len h2, h2, fun i u hu => ?_⟩
      have hi : i < d.sz := by rw [← d.K_len h2]; exact (List.getElem?_eq_some_iff.1 hu).1
      have := (World.cells?_some h1).2.2 i (by omega)
      rw [Addr.add_add, hc] at this
      rw [this, hu]
    · have h1 := hz.1
      rw [hB] at h1
      refine Nat.le_trans (Nat.mul_le_mul_right B (?_ : vs.length ≤ elems.length + rest.length)) h1
      omega
    · obtain ⟨i, hi⟩ := List.getElem?_of_mem hy
      obtain ⟨_, _, _, ho⟩ := hvs i y hi
      exact ho
/-- A struct's fields from one on. -/
def OpensFrom {α : Type} (P : Program) (n : Nat) (fs : List Field) (o : Nat) (d : Kd α) (ok : α → Prop) : Prop :=
  ∀ {H : Type} (enc : TypeId × Value → H) (w : World) (held : Bool) (cs : List Value) (xs : List (DataW H × List MemPlace)),
    (∀ (i : Nat) (f : Field), fs[i]? = some f → DataW.trod enc P w 0 (fun _ => true) held n f.type ((cs.drop f.offset).take (P.cellsOf f.type)) = xs[i]?) → xs.length = fs.length → cs.length = o + d.sz →
    (DataW.weightsEach P (fs.map (·.type)) (xs.map (·.1))).all (· ≤ reachBytes) = true → ∃ v, d.K w v (cs.drop o) ∧ ok v
theorem from_one {α : Type} {d : Kd α} {ok : α → Prop} {f : Field} {o : Nat} (ho : f.offset = o) (hc : P.cellsOf f.type = d.sz) (h : OpensAt P n f.type d ok) : OpensFrom P n [f] o d ok := by
  intro H enc w held cs xs hx hl hs hz
  obtain ⟨x, rfl⟩ : ∃ x, xs = [x] := by
    match xs, hl with
    | [x], _ => exact ⟨x, rfl⟩
  have h1 := hx 0 f rfl
  rw [ho, List.take_of_length_le (by rw [List.length_drop]; omega)] at h1
  simp only [List.map_cons, List.map_nil, DataW.weightsEach, List.append_nil] at hz
  exact h enc w held _ x h1 hz
theorem from_more {α β : Type} {d : Kd α} {ok : α → Prop} {c : Kd β} {okc : β → Prop} {f : Field} {fs : List Field} {o : Nat} (ho : f.offset = o) (hc : P.cellsOf f.type = d.sz) (h : OpensAt P n f.type d ok) (hr : OpensFrom P n fs (o + d.sz) c okc) :
    OpensFrom P n (f :: fs) o (Kd.pair d c) (fun x => ok x.1 ∧ okc x.2) := by
  intro H enc w held cs xs hx hl hs hz
  obtain ⟨x, xs, rfl⟩ : ∃ x ys, xs = x :: ys := by
    match xs, hl with
    | x :: ys, _ => exact ⟨x, ys, rfl⟩
  have hs' : cs.length = o + (d.sz + c.sz) := hs
  have h1 := hx 0 f rfl
  rw [ho, hc] at h1
  simp only [List.map_cons, DataW.weightsEach, List.all_append, Bool.and_eq_true] at hz
  obtain ⟨v, hv, hok⟩ := h enc w held _ x h1 hz.1
  obtain ⟨u, hu, hok2⟩ := hr enc w held cs xs (fun i g hg => by have := hx (i + 1) g hg; simpa using this) (by simpa using hl) (by omega) hz.2
  refine ⟨(v, u), ⟨_, _, ?_, hv, hu⟩, hok, hok2⟩
  rw [← List.drop_drop, List.take_append_drop]
theorem opens_struct {α β : Type} {d : Kd α} {ok : α → Prop} {fs : Array Field} {proj : β → α} (ht : P.underlying t = some (.struct fs)) (hc : P.cellsOf t = d.sz) (h : ∀ m, m < n → OpensFrom P m fs.toList 0 d ok) (hs : ∀ p, ∃ x, proj x = p) :
    OpensAt P n t (Kd.iso d proj) (fun x => ok (proj x)) := by
  intro H enc w held cs x h0 hz
  obtain ⟨xs, m, rfl, rfl, hl, hxl, hx⟩ := DataW.trod_struct ht h0
  simp only [DataW.weights, ht] at hz
  obtain ⟨v, hv, hok⟩ := h m (by omega) enc w held cs xs (fun i f hf => hx i f (by simpa using hf)) (by rw [hxl]; simp) (by omega) hz
  obtain ⟨y, rfl⟩ := hs v
  exact ⟨y, hv, hok⟩
theorem OpensAt.imp {α : Type} {d : Kd α} {ok ok' : α → Prop} (h : OpensAt P n t d ok) (hi : ∀ x, ok x → ok' x) : OpensAt P n t d ok' := by
  intro H enc w held cs x h0 hz
  obtain ⟨v, hv, hok⟩ := h enc w held cs x h0 hz
  exact ⟨v, hv, hi v hok⟩
/-- An argument of a row. -/
theorem OpensAt.arg {α : Type} {d : Kd α} {ok : α → Prop} (h : ∀ n, OpensAt P n t d ok) {H : Type} {enc : TypeId × Value → H} {w : World} {held : Bool} {v : Value} {dd : DataW H} {ps : List MemPlace} {ts : List TypeId} {ds : List (DataW H)} {j : Nat}
    (ho : DataW.Trod enc P w 0 (fun _ => true) held t v dd ps) (hsz : (DataW.weightsEach P ts ds).all (· ≤ reachBytes) = true) (ht : ts[j]? = some t) (hd : ds[j]? = some dd) : ∃ x, d.K w x v.cells.toList ∧ ok x := by
  obtain ⟨fuel, hf⟩ := ho
  refine h fuel enc w held _ _ hf ?_
  rw [List.all_eq_true]
  intro z hz
  exact List.all_eq_true.1 hsz z (DataW.weights_mem_each ht hd z hz)
end
end Go.Proofs.YtomebmjjgkcjiaaGreatDoor.G
