import Derived.Test.YtmoemalkojckaaaProg
import Derived.Below
import Derived.Deep.Draws
import Derived.Deep.AppendLies
import Derived.OwnWalk
import Derived.Laws.MakeOwn
import Derived.Laws.OwnMore
import Derived.Deep.OwnRows
import Derived.Tactics
import Derived.Laws.Slices
import Derived.WalkKit
import Derived.KernelRfl
import Derived.RowKit3
import Derived.Deep.LoopGhost
import Derived.Deep.QuietTactic
import Derived.BigQuiet
import Derived.Deep.DeepCutAuto
import Derived.Deep.CutBlock
import Derived.Deep.RegionHeld3
import Derived.Laws.Rows
import Derived.Laws.BitsLemmas
import Derived.RowKit
import Derived.Lib.Hide
import Derived.WalkLawsBesides
import Derived.WalkSpells
import Derived.Deep.DeepFit
import Derived.Laws.ShiftsVar
import Derived.Laws.ShiftsVarLaws
import Derived.Test.YtmoemalkojckaaaJ12
namespace Go.Proofs.Ytmoemalkojckaaa.J
open Go.RowKit
set_option linter.unusedVariables false
set_option linter.unusedSimpArgs false

/-! ### a table that is not valid -/
set_option maxHeartbeats 800000 in
set_option maxRecDepth 100000 in
theorem decidable_bad (P C : List (List Int)) (A0 A1 : Option Addr) (c0 c1 : Nat) (w : World) (ht : Tab w A0 A1 P C) (hvB : validB P C = false) :
    Calls Try.prog 10 #[.agg #[.slice A0 P.length c0, .slice A1 C.length c1]] w fun e w' => e = .returned (.tuple #[.bool false, .bool false]) ∧ Below w.heap.size w w' := by
  have hbel : Below w.heap.size w (w.alloc (.cells #[.slice A0 P.length c0, .slice A1 C.length c1] 24)) := (Below.refl _ _).alloc (Nat.le_refl _) _
  have HV := Lib.hid (fun wx (hx : Tab wx A0 A1 P C) => valid_calls P C A0 A1 c0 c1 wx hx)
  rw [hvB] at HV
  have HT := Lib.hid (ht.below hbel)
  have HB := Lib.hid hbel
  clear ht hvB hbel
  go_enter Try.func10, Try.ntmps10
  go_wp2_with fail
  refine (HV.out _ HT.out).mono ?_
  rintro e w2 ⟨rfl, hb2⟩
  have HB2 := Lib.hid (HB.out.trans (hb2.mono (by simp)))
  clear hb2
  go_wp2
  go_ret2
  exact ⟨rfl, HB2.out⟩

set_option maxHeartbeats 800000 in
set_option maxRecDepth 100000 in
theorem conflicted_bad (P C : List (List Int)) (A0 A1 : Option Addr) (c0 c1 : Nat) (w : World) (ht : Tab w A0 A1 P C) (hvB : validB P C = false) :
    Calls Try.prog 15 #[.agg #[.slice A0 P.length c0, .slice A1 C.length c1]] w fun e w' => e = .returned (.int .i64 0) ∧ Below w.heap.size w w' := by
  have hbel : Below w.heap.size w (w.alloc (.cells #[.slice A0 P.length c0, .slice A1 C.length c1] 24)) := (Below.refl _ _).alloc (Nat.le_refl _) _
  have HV := Lib.hid (fun wx (hx : Tab wx A0 A1 P C) => valid_calls P C A0 A1 c0 c1 wx hx)
  rw [hvB] at HV
  have HT := Lib.hid (ht.below hbel)
  have HB := Lib.hid hbel
  clear ht hvB hbel
  go_enter Try.func15, Try.ntmps15
  go_wp2_with fail
  refine (HV.out _ HT.out).mono ?_
  rintro e w2 ⟨rfl, hb2⟩
  have HB2 := Lib.hid (HB.out.trans (hb2.mono (by simp)))
  clear hb2
  go_wp2
  go_ret
  exact ⟨rfl, HB2.out⟩

/-! ### sets of members -/
def maskOf : Nat → (Nat → Bool) → Nat
  | 0, _ => 0
  | n + 1, f => maskOf n f ||| (if f n then 2 ^ n else 0)
theorem maskOf_testBit (n : Nat) (f : Nat → Bool) (j : Nat) : (maskOf n f).testBit j = (decide (j < n) && f j) := by
  induction n with
  | zero => simp [maskOf]
  | succ n ih =>
    rw [maskOf, Nat.testBit_or, ih]
    by_cases e : j = n
    · subst e
      cases h : f j <;> simp [Nat.testBit_two_pow_self]
    · have h1 : (if f n = true then 2 ^ n else 0).testBit j = false := by
        cases f n <;> simp [Nat.testBit_two_pow, Ne.symm e]
      rw [h1, Bool.or_false]
      congr 1
      simp only [decide_eq_decide]
      omega
theorem maskOf_lt (n : Nat) (f : Nat → Bool) : maskOf n f < 2 ^ n := by
  induction n with
  | zero => simp [maskOf]
  | succ n ih =>
    rw [maskOf]
    refine Nat.or_lt_two_pow (Nat.lt_of_lt_of_le ih (Nat.pow_le_pow_right (by omega) (by omega))) ?_
    split
    · exact Nat.pow_lt_pow_right (by omega) (by omega)
    · exact Nat.two_pow_pos _
theorem maskOf_congr (n : Nat) (f g : Nat → Bool) (h : ∀ j, j < n → f j = g j) : maskOf n f = maskOf n g := by
  apply Nat.eq_of_testBit_eq
  intro j
  rw [maskOf_testBit, maskOf_testBit]
  by_cases hj : j < n
  · rw [h j hj]
  · simp [hj]
theorem wraps_i64 (n : Int) (h0 : 0 ≤ n) (h1 : n < 2 ^ 20) : IntKind.i64.wrap n = n := by rw [IntKind.wrap_i64]; omega
theorem orN {a b : Nat} (ha : a < 2 ^ 20) (hb : b < 2 ^ 20) : Go.bits .or .i64 (a : Int) (b : Int) = ((a ||| b : Nat) : Int) := (bits_nat .i64 20 (by decide) wraps_i64 a b ha hb).2
theorem maskOf_or (n i : Nat) (f : Nat → Bool) (hn : n ≤ 20) (hi : i < n) : Go.bits .or .i64 (maskOf n f : Int) ((2 ^ i : Nat) : Int) = (maskOf n (fun j => f j || j == i) : Int) := by
  have h20 : 2 ^ n ≤ 2 ^ 20 := Nat.pow_le_pow_right (by omega) hn
  have h2 : 2 ^ i < 2 ^ 20 := Nat.pow_lt_pow_right (by omega) (by omega)
  rw [orN (Nat.lt_of_lt_of_le (maskOf_lt n f) h20) h2]
  congr 1
  apply Nat.eq_of_testBit_eq
  intro j
  rw [Nat.testBit_or, maskOf_testBit, maskOf_testBit, Nat.testBit_two_pow]
  by_cases e : i = j
  · subst e; simp [hi]
  · have h3 : (j == i) = false := by rw [beq_eq_false_iff_ne]; exact Ne.symm e
    simp [e, h3]

theorem popc_mask (f : Nat → Bool) : popc (maskOf 7 f) = (List.range 7).countP f := by
  unfold popc
  have : (List.range 10).countP (fun i => (maskOf 7 f).testBit i) = (List.range 10).countP (fun i => decide (i < 7) && f i) := by
    congr 1; funext i; exact maskOf_testBit 7 f i
  rw [this]
  have e : List.range 10 = List.range 7 ++ [7, 8, 9] := by decide
  rw [e, List.countP_append]
  have h1 : ([7, 8, 9] : List Nat).countP (fun i => decide (i < 7) && f i) = 0 := by simp [List.countP_cons]
  rw [h1, Nat.add_zero]
  refine List.countP_congr fun x hx => ?_
  have := List.mem_range.1 hx
  simp [this]

end Go.Proofs.Ytmoemalkojckaaa.J
