import Derived.Test.YtmoemalkojckaaaProg
import Derived.Below
import Derived.Deep.Draws
import Derived.Deep.AppendLies
import Derived.OwnWalk
import Derived.Laws.MakeOwn
import Derived.Laws.OwnMore
import Derived.Deep.OwnRows
import Derived.Tactics
import Derived.Laws.Slices
import Derived.WalkKit
import Derived.KernelRfl
import Derived.RowKit3
import Derived.Deep.LoopGhost
import Derived.Deep.QuietTactic
import Derived.BigQuiet
import Derived.Deep.DeepCutAuto
import Derived.Deep.CutBlock
import Derived.Deep.RegionHeld3
import Derived.Laws.Rows
import Derived.Laws.BitsLemmas
import Derived.RowKit
import Derived.Lib.Hide
import Derived.WalkLawsBesides
import Derived.WalkSpells
import Derived.Deep.DeepFit
import Derived.Test.YtmoemalkojckaaaR5
import Derived.Test.YtmoemalkojckaaaJ20
namespace Go.Proofs.Ytmoemalkojckaaa.J
open Go.RowKit
set_option linter.unusedVariables false
set_option linter.unusedSimpArgs false

def natsOf (l : List Int) : List Nat := l.map Int.toNat
theorem natsOf_ints (n : Nat) (hi : Int) (l : List Int) (h : fitRow n hi l = true) : ints (natsOf l) = l ∧ (natsOf l).length = n ∧ ∀ x ∈ natsOf l, (x : Int) ≤ hi := by
  unfold fitRow at h
  rw [Bool.and_eq_true, decide_eq_true_eq, List.all_eq_true] at h
  obtain ⟨hl, ha⟩ := h
  have hb : ∀ x ∈ l, 0 ≤ x ∧ x ≤ hi := fun x hx => by
    have := ha x hx
    rw [Bool.and_eq_true, decide_eq_true_eq, decide_eq_true_eq] at this
    exact this
  refine ⟨?_, by unfold natsOf; rw [List.length_map]; exact hl, ?_⟩
  · unfold ints natsOf
    rw [List.map_map]
    have : ∀ x ∈ l, ((fun (x : Nat) => (x : Int)) ∘ Int.toNat) x = id x := fun x hx => by
      have := (hb x hx).1
      simp only [Function.comp, id]
      omega
    rw [List.map_congr_left this, List.map_id]
  · intro x hx
    unfold natsOf at hx
    obtain ⟨y, hy, rfl⟩ := List.mem_map.1 hx
    have := hb y hy
    omega

theorem tab_nats (n : Nat) (hi : Int) (T : List (List Int)) (h : fitsB T n hi = true) : itab (T.map natsOf) = T ∧ ∀ l ∈ T.map natsOf, l.length = n ∧ ∀ x ∈ l, (x : Int) ≤ hi := by
  unfold fitsB at h
  rw [List.all_eq_true] at h
  constructor
  · unfold itab
    rw [List.map_map]
    have : ∀ l ∈ T, (ints ∘ natsOf) l = id l := fun l hl => (natsOf_ints n hi l (h l hl)).1
    rw [List.map_congr_left this, List.map_id]
  · intro l hl
    obtain ⟨l', hl', rfl⟩ := List.mem_map.1 hl
    exact (natsOf_ints n hi l' (h l' hl')).2

theorem valid_nats (P C : List (List Int)) (h : validB P C = true) : ∃ n pre com, P = itab pre ∧ C = itab com ∧ JM.Valid n pre com := by
  unfold validB at h
  simp only [Bool.and_eq_true, decide_eq_true_eq] at h
  obtain ⟨⟨⟨⟨⟨⟨h1, h3⟩, hc⟩, hn1⟩, hn7⟩, hp⟩, hcm⟩ := h
  obtain ⟨eP, aP⟩ := tab_nats _ _ _ hp
  obtain ⟨eC, aC⟩ := tab_nats _ _ _ hcm
  refine ⟨(P.getD 0 []).length, P.map natsOf, C.map natsOf, eP.symm, eC.symm, ?_⟩
  refine ⟨by rw [List.length_map, List.length_map]; omega, by rw [List.length_map]; exact h1, by rw [List.length_map]; exact h3, hn1, hn7, fun l hl => ⟨(aP l hl).1, fun x hx => by have := (aP l hl).2 x hx; omega⟩, fun l hl => ⟨(aC l hl).1, fun x hx => by have := (aC l hl).2 x hx; omega⟩⟩

/-- What both texts answer of a table, whatever it is. -/
theorem both_texts (P C : List (List Int)) : ∃ (x y : Bool) (m : Nat),
    (∀ A0 A1 c0 c1 w, Tab w A0 A1 P C → Calls Try.prog 10 #[.agg #[.slice A0 P.length c0, .slice A1 C.length c1]] w fun e w' => e = .returned (.tuple #[.bool x, .bool y]) ∧ Below w.heap.size w w') ∧
    (∀ A0 A1 c0 c1 w, Tab w A0 A1 P C → Calls Try.prog 11 #[.agg #[.slice A0 P.length c0, .slice A1 C.length c1]] w fun e w' => e = .returned (.tuple #[.bool x, .bool y]) ∧ Below w.heap.size w w') ∧
    (∀ A0 A1 c0 c1 w, Tab w A0 A1 P C → Calls Try.prog 15 #[.agg #[.slice A0 P.length c0, .slice A1 C.length c1]] w fun e w' => e = .returned (.int .i64 (m : Int)) ∧ Below w.heap.size w w') ∧
    (∀ A0 A1 c0 c1 w, Tab w A0 A1 P C → Calls Try.prog 16 #[.agg #[.slice A0 P.length c0, .slice A1 C.length c1]] w fun e w' => e = .returned (.int .i64 (m : Int)) ∧ Below w.heap.size w w') := by
  by_cases hv : validB P C = true
  · obtain ⟨n, pre, com, rfl, rfl, hV⟩ := valid_nats P C hv
    refine ⟨(JM.decT n pre com).1, (JM.decT n pre com).2, maskOf 7 (JM.conf pre com), ?_, ?_, ?_, ?_⟩
    · intro A0 A1 c0 c1 w ht
      rw [itab_length, itab_length]
      exact decidable_calls pre com n hV A0 A1 c0 c1 w ht hv
    · intro A0 A1 c0 c1 w ht
      rw [itab_length, itab_length]
      exact rdecidable_calls pre com n hV A0 A1 c0 c1 w ht hv
    · intro A0 A1 c0 c1 w ht
      rw [itab_length, itab_length]
      exact conflicted_calls pre com n hV A0 A1 c0 c1 w ht hv
    · intro A0 A1 c0 c1 w ht
      rw [itab_length, itab_length]
      exact rconflicted_calls pre com n hV A0 A1 c0 c1 w ht hv
  · have hv' : validB P C = false := by cases h : validB P C with
      | false => rfl
      | true => exact absurd h hv
    exact ⟨false, false, 0, fun A0 A1 c0 c1 w ht => decidable_bad P C A0 A1 c0 c1 w ht hv', fun A0 A1 c0 c1 w ht => rdecidable_bad P C A0 A1 c0 c1 w ht hv',
      fun A0 A1 c0 c1 w ht => conflicted_bad P C A0 A1 c0 c1 w ht hv', fun A0 A1 c0 c1 w ht => rconflicted_bad P C A0 A1 c0 c1 w ht hv'⟩

theorem table_calls12 (A0 A1 : Option Addr) (n0 n1 c0 c1 : Nat) (w : World) : Calls Try.prog 12 #[.agg #[.slice A0 n0 c0, .slice A1 n1 c1]] w fun e w' => e = .returned (.agg #[.slice A0 n0 c0, .slice A1 n1 c1]) ∧ Below w.heap.size w w' := by
  go_enter Try.func12, Try.ntmps12
  go_wp2
  exact bodyPost_ret (v := .agg #[.slice A0 n0 c0, .slice A1 n1 c1]) (by simp [results, Try.results12, go_sem]) rfl ⟨rfl, ((Below.refl _ _).alloc (Nat.le_refl _) _).alloc (by simp) _⟩

end Go.Proofs.Ytmoemalkojckaaa.J
