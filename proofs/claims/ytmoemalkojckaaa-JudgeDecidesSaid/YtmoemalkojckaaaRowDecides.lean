/- A closed statement: JudgeDecides answers true, whatever the table. No condition. -/
import Derived.Test.YtmoemalkojckaaaRows
import Derived.Test.YtmoemalkojckaaaD2
import Derived.WalkKit
import Derived.ProofKit
import Derived.OpenShut
import Derived.ShutString
import Derived.ChangeOld
import Derived.Below
import Derived.Carry
import Derived.Deep.Matrix
import Derived.Lib.SmallJoins
namespace Go.Proofs.Ytmoemalkojckaaa.judgeDecides
open Go.ChangeShapes Go.WideShapes Go.ChangeAt Go.RowKit
open Go.ChangeMaps (open_string shut_string)
set_option linter.unusedVariables false

theorem own : ownKnob Try.prog.godebug = none := by kernel_rfl
theorem laidOut : laidOutB Try.prog = true := by kernel_rfl

theorem spotless {w : World} {x : Addr} {v : Value} (h : w.cell? x = some v) : x.spot = none := by
  cases hs : x.spot with
  | none => rfl
  | some s =>
    unfold World.cell? at h
    rw [hs] at h
    split at h <;> simp at h
theorem add_at {x : Addr} (h : x.spot = none) (i : Nat) : x.add i = ⟨x.block, x.off + i, none⟩ := by
  obtain ⟨b, o, s⟩ := x
  simp only at h
  subst h
  unfold Addr.add
  by_cases e : i = 0
  · subst e; simp
  · simp [e]
theorem addr_eta {x : Addr} (h : x.spot = none) : x = ⟨x.block, x.off, none⟩ := by
  obtain ⟨b, o, s⟩ := x
  simp only at h
  subst h; rfl

/-- What the walk is told of a slice of rows of numbers that came in. -/
theorem toTab {H : Type} {enc : TypeId × Value → H} {w : World} {base : Nat} {fuel : Nat} {held : Bool} {v : Value} {x : DataW H × List MemPlace}
    (h : DataW.trod enc Try.prog w base (fun _ => true) held fuel 22 [v] = some x) :
    ∃ (A : Option Addr) (len cap : Nat) (rows : List (List Int)), v = .slice A len cap ∧ rows.length = len ∧ len ≤ 9223372036854775807 ∧ (∀ r, (rows.getD r []).length ≤ 9223372036854775807) ∧ J.TabAt w A rows := by
  rcases Deep.open_int_rows Try.underlying22 Try.underlying45 Try.underlying3 (by kernel_rfl) (by kernel_rfl) h with ⟨hcs, _⟩ | ⟨a, len, cap, A, L, C, Z, hcs, _, hlc, hcm, _, hr⟩
  · injection hcs with hv
    subst hv
    exact ⟨none, 0, 0, [], rfl, rfl, by omega, fun r => by simp, fun r hr => by simp at hr⟩
  · injection hcs with hv
    subst hv
    unfold maxLen at hcm
    have hlen : ∀ r, r < len → ((Z r).take (L r)).length = L r ∧ L r ≤ 9223372036854775807 := fun r h => by
      obtain ⟨_, h1, h2, h3, _⟩ := hr r (by omega)
      unfold maxLen at h2
      exact ⟨by rw [List.length_take]; omega, by omega⟩
    have hget : ∀ r, r < len → ((List.range len).map fun r => (Z r).take (L r)).getD r [] = (Z r).take (L r) := fun r h => by simp [List.getD, h]
    refine ⟨some a, len, cap, (List.range len).map fun r => (Z r).take (L r), rfl, by simp, by omega, fun r => ?_, fun r h => ?_⟩
    · by_cases h : r < len
      · rw [hget r h, (hlen r h).1]; exact (hlen r h).2
      · rw [List.getD, List.getElem?_eq_none (by simp; omega)]; simp
    · have hrl : r < len := by simpa using h
      obtain ⟨hc, h1, h2, h3, _, hnil, hcell⟩ := hr r (by omega)
      have hsp : a.spot = none := spotless (x := a) (by
        have h0 := (hr 0 (by omega)).1
        have e : a.add 0 = a := by simp [Addr.add]
        rw [e] at h0; exact h0)
      rw [hget r hrl, (hlen r hrl).1]
      rw [add_at hsp] at hc
      refine ⟨a.block, a.off, A r, C r, by rw [← addr_eta hsp], hc, fun i hi => ?_⟩
      rw [(hlen r hrl).1] at hi
      cases hA : A r with
      | none => have := hnil hA; omega
      | some a' =>
        have hc' := (hcell a' hA).2
        have hsp' : a'.spot = none := spotless (x := a') (by
          have h0 := hc' 0 (by omega)
          have e : a'.add 0 = a' := by simp [Addr.add]
          rw [e] at h0; exact h0)
        have hci := hc' i (by omega)
        rw [add_at hsp'] at hci
        refine ⟨a'.block, a'.off, by rw [← addr_eta hsp'], ?_⟩
        rw [hci]
        congr 2
        simp [List.getD, hi]

/-! ### THE ROW's STEP: WRITTEN OUT: LEAVE IT -/
set_option maxRecDepth 100000 in
theorem lifted (os : Os) (started : os.Started) (H : Type) (enc : TypeId × Value → H) :
    ReturnsInHanded {} Try.checked os 3 .any (Rows.judgeDecidesSpec.pre6 enc Try.prog Try.f3 Rows.judgeDecidesRow.domain false) (Rows.judgeDecidesSpec.post enc Try.prog Try.f3 false true false false) := by
  refine returnsInHanded_of_change (C := Try.checked) own started (by kernel_rfl) Try.func3
    (ChangeSpec.witness6 (enc := enc) (C := Try.checked) false ⟨#[], #[.agg #[.slice none 0 0, .slice none 0 0]], []⟩ 8 (by kernel_rfl) (by kernel_rfl) (by kernel_rfl) (by kernel_rfl)) ?_
  intro W base args ds gs before hval0 hW hcnd _
  have hval : ∀ (j : Nat) t v, Try.f3.params[j]? = some t → args[j]? = some v → Value.okWide Try.prog W .any base t v := hval0
  have hW' := hW
  obtain ⟨p, q, hA0, hV, rfl, hfz, hnd⟩ := hW
  have hA : DataW.TrodAll enc Try.prog W 0 (fun _ => true) true Try.f3.params.toList args.toList ds p := hA0
  rw [Try.params3] at hA hval
  obtain ⟨v0, vs0, d0, ds0, p0, q0, hargs, rfl, rfl, h0, r0⟩ := trodAll_cons hA
  obtain ⟨rfl, rfl, rfl⟩ := trodAll_nil r0
  obtain rfl : args = #[v0] := by cases args; simp_all
  obtain ⟨rfl, rfl⟩ := trodVars_none hV
  have k0 := h0
  have lt0 : ∀ x ∈ p0, x.block < W.heap.size := by obtain ⟨m, hm⟩ := k0; exact DataW.trod_lt m _ _ _ hm
  obtain ⟨a0, a1, y0, y1, n, rfl, rfl, rfl, g0, g1⟩ := Joins.open_agg2 Try.underlying24 (by kernel_rfl) (by kernel_rfl) (hval 0 24 v0 rfl rfl) h0
  obtain ⟨A0, n0, c0, P, rfl, e0, l0, m0, t0⟩ := toTab g0
  obtain ⟨A1, n1, c1, C, rfl, e1, l1, m1, t1⟩ := toTab g1
  clear hA0 hval0
  subst e0 e1
  refine (J.decides_calls P C A0 A1 c0 c1 W ⟨t0, t1, l0, l1, m0, m1⟩).mono fun e W' ⟨he, bel⟩ => ?_
  subst he
  exact ⟨_, rfl, _, _, _, [], _, [], hW', trodAll_mk1 (shut_bool Try.underlying4 _), (trodAll_cons_mk (Below.trod laidOut (by kernel_rfl) (of_decide_eq_true (by kernel_rfl)) k0 bel lt0) trodAll_mk0), rfl, bel.frame _, fun h => by cases h⟩

theorem over : Rows.judgeDecidesRow.holds Try.pinned (OpenSpec.ofChange Rows.judgeDecidesSpec) :=
  OpenClaim.holds_of_wide 3 Try.f3 rfl rfl rfl rfl rfl rfl rfl ⟨rfl, rfl, rfl, rfl, rfl⟩ rfl rfl rfl rfl rfl (by kernel_rfl) Try.func3 (by kernel_rfl)
    (of_decide_eq_true (by kernel_rfl)) (by unfold Func.isWrapper; first | (rw [if_pos (by decide +kernel)]; kernel_rfl) | (rw [if_neg (by decide +kernel)]; exact ⟨rfl, rfl⟩))
    (fun os started H enc _ => lifted os started H enc)

/-- ████ THE STATEMENT ████ -/
theorem proved : Rows.JudgeDecidesSaid := over
#print axioms proved
end Go.Proofs.Ytmoemalkojckaaa.judgeDecides
