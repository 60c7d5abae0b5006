/-
  parlanceref04.Runes: the runes, one by one off the front of []byte(s): its contract, in the printer's words.
-/
import Derived.Test.YtjffpcjbbehooaaDoorConv
import Derived.Test.YtjffpcjbbehooaaDoorUtfFirst
import Derived.WalkKit
import Derived.Deep.LoopGhost
set_option linter.unusedVariables false
namespace Go.Proofs.YtjffpcjbbehooaaDoor.G
open Go.RowKit Go.Lib Go.Proofs.YtjffpcjbbehooaaDoorW.PrintWords Go.Proofs.YtjffpcjbbehooaaDoor.PUA
theorem infoI : (Tryd.prog.info? 3).map (fun i => (i.zero, i.size, i.bytes)) = some (some (.int .i64 0), 1, 8) := by kernel_rfl
theorem infoB : (Tryd.prog.info? 5).map (fun i => (i.zero, i.size, i.bytes)) = some (some (.int .u8 0), 1, 1) := by kernel_rfl
def GRefRunes.f (a0 : ByteArray) : Option (List Int × Int) := if a0.size ≤ 17592186044416 then some (if Lib.validD a0.data.toList then (runes a0.data.toList, 0) else ([], 40)) else none
/-- The front that is still to be read lies in memory. -/
def Rest (wr : World) (A : Option Addr) (n c : Nat) (d : List UInt8) : Prop := n = d.length ∧ n ≤ c ∧ Kd.C (Kd.int .u8) wr A (ints d).length (ints d)
theorem Rest.below {wr w2 : World} {A : Option Addr} {n c : Nat} {d : List UInt8} (h : Rest wr A n c d) (hb : Below wr.heap.size wr w2) : Rest w2 A n c d := ⟨h.1, h.2.1, Kd.C_below h.2.2 hb⟩
theorem Rest.call {wr : World} {A : Option Addr} {n c : Nat} {d : List UInt8} (h : Rest wr A n c d) : Calls Tryd.prog 41 #[.slice A n c] wr fun e w' => e = .returned (.tuple #[.int .i64 (firstOf d).1, .int .i64 (firstOf d).2]) ∧ Below wr.heap.size wr w' := by
  obtain ⟨h1, h2, h3⟩ := h
  have hl : (ints d).length = n := by rw [ints_length, h1]
  have := parlanceref04_first.calls 14 A c (ints d) (firstOf d).1 (firstOf d).2 wr h3 (by omega) (first_eq d 14 (by omega))
  rw [hl] at this
  exact this
theorem Rest.cut {A : Option Addr} {n c : Nat} {d : List UInt8} (m : Nat) (hm : m ≤ d.length) (hn : n = d.length) (hc : n ≤ c) : ∃ A' n' c', (∀ W : World, (Instr.slice 46 (.slice A n c) (some (.int .i64 (m : Int))) none none).run Tryd.prog W = .ok (.slice A' n' c') W) ∧ ∀ wr : World, Rest wr A n c d → Rest wr A' n' c' (d.drop m) := by
  obtain ⟨i0, hi, _, hsz, _⟩ := info_parts infoB
  have hl : (ints d).length = n := by rw [ints_length, hn]
  obtain ⟨A', h1, h2, h3⟩ := print_drop_of (P := Tryd.prog) (Value.int .u8) 0 46 5 .i64 Tryd.underlying46 hi hsz A c (ints d) (m : Int) (by omega) (by rw [ints_length]; omega) (by omega)
  simp only [Int.toNat_natCast] at h1 h2 h3
  rw [hl] at h1
  refine ⟨A', ((ints d).drop m).length, c - m, h1, fun wr hr => ⟨by rw [ints_drop, ints_length], h3, ?_⟩⟩
  have := Kd.C_of_reads (h1 := fun _ => rfl) (h2 wr (Kd.reads_of_C hr.2.2))
  rw [ints_drop] at this
  exact this
theorem own_snoc {W : World} {base : Nat} {e : TypeId} {v : Value} {rs : List Int} {x : Int} (h : W.ownsRow base e 1 v (rs.length + 1) (nums .i64 rs ++ [.int .i64 x])) : W.ownsRow base e 1 v (rs ++ [x]).length (nums .i64 (rs ++ [x])) := by
  rw [List.length_append, show nums .i64 (rs ++ [x]) = nums .i64 rs ++ [.int .i64 x] from by simp [nums]]
  exact h
set_option maxHeartbeats 2000000 in
set_option maxRecDepth 100000 in
theorem GRefRunes.calls (a0 : ByteArray) (r1 : List Int) (r2 : Int) (w : World) (h : GRefRunes.f a0 = some (r1, r2)) :
    Calls Tryd.prog 37 #[.string a0] w fun e w' => ∃ v0_ : Value, e = .returned (.tuple #[v0_, .int .i64 r2]) ∧ Kd.R (Kd.int .i64) 3 w' w.heap.size (fun _ => True) v0_ r1 ∧ Below w.heap.size w w' := by
  unfold GRefRunes.f at h
  split at h
  case isFalse => cases h
  case isTrue hs =>
    have H := Aside0.mk (Option.some.inj h)
    clear h
    obtain ⟨i0, hi, hz0, hz1, hz2⟩ := info_parts infoI
    have hcv := Lib.run_convert_string_bytes (P := Tryd.prog) w 9 46 5 a0 Tryd.underlying9 Tryd.underlying46 Tryd.underlying5
    have HB := Aside0.mk (conv_below w 5 a0)
    have hsz := bytesWorld_size w 5 a0
    have HR := Aside0.mk (show Rest (bytesWorld w 5 a0) (some ⟨w.heap.size, 0, none⟩) a0.size (grownCap w a0.size 0 5) a0.data.toList from ⟨Lib.size_eq a0, conv_cap w 5 a0, conv_reads w 5 a0 (by omega)⟩)
    generalize bytesWorld w 5 a0 = W1 at hcv HB hsz HR
    generalize grownCap w a0.size 0 5 = C1 at hcv HR
    have Hsz := Aside0.mk hsz
    have Hs := Aside0.mk hs
    clear hsz hs
    go_enter Tryd.func37, Tryd.ntmps37
    go_wp2
    clear hcv
    go_loopg [4, 5] (a0.size + 1) (fun gk v4 v5 wr => ∃ A n c d rs, v4 = .slice A n c ∧ Aside0 (Rest W1 A n c d) ∧ Aside0 (wr.ownsRow W1.heap.size 3 1 v5 rs.length (nums .i64 rs)) ∧ Aside0 (Below W1.heap.size W1 wr) ∧ Aside0 (rs ++ runes d = runes a0.data.toList ∧ Lib.validD d = Lib.validD a0.data.toList ∧ rs.length + d.length ≤ a0.size ∧ d.length < gk))
    case atStart =>
      refine ⟨_, _, _, a0.data.toList, [], rfl, HR, ⟨⟨rfl, .inr ⟨W1.heap.size, 0, #[], rfl, Nat.le_refl _, ?_, Nat.le_refl _, Nat.zero_le _, rfl, rfl⟩⟩⟩, ⟨below_alloc (Below.refl _ _) _⟩, ⟨rfl, rfl, by simp, by rw [← Lib.size_eq]; omega⟩⟩
      show (W1.heap.push _)[W1.heap.size]? = _
      simp
    case round =>
      obtain ⟨A, n, c, d, rs, rfl, HRr, HO, HBr, HP⟩ := hrel
      have hnd := HRr.out.1
      by_cases hd : d = []
      · have hn0 : n = 0 := by rw [hnd, hd]; rfl
        subst hn0
        have hp := HP.out
        rw [hd, runes_nil, List.append_nil, Lib.validD_nil] at hp
        have hr := H.out
        rw [← hp.2.1] at hr
        simp only [if_true, Prod.mk.injEq] at hr
        have hH := Aside0.mk (show wr.ownsRow w.heap.size 3 1 u5 r1.length (encs (Value.int .i64) r1) by rw [← hr.1, ← hp.1]; exact own_less HO.out HB.out.size)
        obtain rfl := hr.2
        have HBe := Aside0.mk (below_step HB.out HBr.out)
        clear hp hr H HP HO hnd hd HRr HR HB HBr
        go_wp2
        go_ret2
        exact ⟨_, rfl, Kd.R_of_own hH.out (fun _ _ => trivial), HBe.out⟩
      · have hn0 : 0 < n := by rw [hnd]; exact List.length_pos_iff.2 hd
        have hnz : (0 : Int) < (n : Int) := by omega
        have HC := Aside0.mk (HRr.out.below HBr.out).call
        by_cases hb : Bad d
        · have e : firstOf d = (0, 0) := by unfold firstOf; rw [if_pos (.inr hb)]
          have hc := HC.out
          rw [e] at hc
          dsimp only at hc
          have HC2 := Aside0.mk hc
          have hv : Lib.validD d = false := valid_bad d hd hb
          have hr := H.out
          rw [← HP.out.2.1, hv] at hr
          simp only [Bool.false_eq_true, if_false, Prod.mk.injEq] at hr
          obtain ⟨rfl, rfl⟩ := hr
          have HBe := Aside0.mk (below_step HB.out HBr.out)
          clear e hc HC hv hb hd HP H HO HRr HR hnd HB HBr
          go_wp2_with (go_at_call 41; refine HC2.out.mono ?_; rintro e w2 ⟨rfl, hb⟩; have HB2 := Aside0.mk hb; clear hb)
          go_ret2
          exact ⟨_, rfl, Kd.R_nil _ _ _ _ _, below_step HBe.out HB2.out⟩
        · have e : firstOf d = (((decodeL d).1 : Int), ((decodeL d).2 : Int)) := by unfold firstOf; rw [if_neg (by rintro (h | h); exact hd h; exact hb h)]
          have hw1 := decodeL_width d
          have hw2 := decodeL_le d hd
          have hrn := decodeL_rune d
          have hst := runes_step d hd
          have hvs := valid_good d hd hb
          obtain ⟨x, m, hxm⟩ : ∃ x m, decodeL d = (x, m) := ⟨_, _, rfl⟩
          rw [hxm] at e hw1 hw2 hrn hst hvs
          dsimp only at e hw1 hw2 hrn hst hvs
          have hc := HC.out
          rw [e] at hc
          dsimp only at hc
          have HC2 := Aside0.mk hc
          obtain ⟨A', n', c', hcut, hcutR⟩ := Rest.cut (A := A) (n := n) (c := c) (d := d) m hw2 hnd HRr.out.2.1
          have HR2 := Aside0.mk (hcutR W1 HRr.out)
          have HQ := Aside0.mk (show (rs ++ [(x : Int)]) ++ runes (d.drop m) = runes a0.data.toList ∧ Lib.validD (d.drop m) = Lib.validD a0.data.toList ∧ (rs ++ [(x : Int)]).length + (d.drop m).length ≤ a0.size ∧ (d.drop m).length < d.length by
            refine ⟨?_, by rw [← hvs]; exact HP.out.2.1, ?_, by rw [List.length_drop]; omega⟩
            · rw [List.append_assoc, List.singleton_append, ← hst]; exact HP.out.1
            · have := HP.out.2.2.1
              rw [List.length_append, List.length_drop, List.length_singleton]
              omega)
          have hmz : (1 : Int) ≤ (m : Int) := by omega
          have hm0 : ((m : Int) == 0) = false := beq_eq_false_iff_ne.2 (by omega)
          have Hl := Aside0.mk (show rs.length + 1 ≤ a0.size by have := HP.out.2.2.1; omega)
          have HG := Aside0.mk HP.out.2.2.2
          have hxb : (x : Int) ≤ 1114111 := by omega
          clear e hc HC hb hd HP H HRr HR hnd hw1 hw2 hst hvs hxm hcutR hrn
          go_wp2_with (first
            | (go_at_call 41; refine HC2.out.mono ?_; rintro e w2 ⟨rfl, hb⟩; have HO2 := Aside0.mk (own_move HO.out (fun j e => hb.block j (own_lt HO.out j e))); have HB3 := Aside0.mk (below_step HBr.out hb); clear hb HO HBr HC2)
            | (at_builtin; refine wpList_append_own _ rfl _ _ 55 rfl W1.heap.size 3 i0 (.int .i64 0) 1 8 Tryd.underlying55 hi hz0 hz1 hz2 rfl (by decide) _ _ _ rfl (HO2.out.alloc _) ⟨w2.heap.size, 0, none⟩ 1 1 [.int .i64 x] rfl rfl (one_cell_new _ _ _) one_cell_ok ?c3 ?c4 ?c5 ?_; (case c3 => have := Hl.out; have := Hs.out; unfold maxLen; omega); (case c4 => have := Hl.out; have := Hs.out; omega); (case c5 => have := HB3.out.size; simp; omega); intro v' w3 hown' hg hx_; have HO3 := Aside0.mk (own_snoc hown'); have HB4 := Aside0.mk ((HB3.out.alloc HB3.out.size _).grown hg (by have := HB3.out.size; simp; omega) (fun j e => own_base HO2.out j e)); clear hown' hg hx_ HO2 HB3))
          obtain ⟨gk, rfl⟩ : ∃ g, gk = g + 1 := ⟨gk - 1, by have := HG.out; omega⟩
          go_roundg gk
          case measure => omega
          case rel => exact ⟨A', n', c', d.drop m, rs ++ [(x : Int)], rfl, HR2, HO3, HB4, ⟨HQ.out.1, HQ.out.2.1, HQ.out.2.2.1, by have := HQ.out.2.2.2; have := HG.out; omega⟩⟩
end Go.Proofs.YtjffpcjbbehooaaDoor.G
