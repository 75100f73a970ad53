import Derived.Test.YtmoemalkojckaaaProg
import Derived.Below
import Derived.Deep.Draws
import Derived.Deep.AppendLies
import Derived.OwnWalk
import Derived.Laws.MakeOwn
import Derived.Laws.OwnMore
import Derived.Deep.OwnRows
import Derived.Tactics
import Derived.Laws.Slices
import Derived.WalkKit
import Derived.KernelRfl
import Derived.RowKit3
import Derived.Deep.LoopGhost
import Derived.Deep.QuietTactic
import Derived.BigQuiet
import Derived.Deep.DeepCutAuto
import Derived.Deep.CutBlock
import Derived.Deep.RegionHeld3
import Derived.Laws.Rows
import Derived.Laws.BitsLemmas
import Derived.RowKit
import Derived.Lib.Hide
import Derived.WalkLawsBesides
import Derived.WalkSpells
import Derived.Deep.DeepFit
import Derived.Test.YtmoemalkojckaaaJ8
namespace Go.Proofs.Ytmoemalkojckaaa.J
open Go.RowKit
set_option linter.unusedVariables false
set_option linter.unusedSimpArgs false

/-! ### tables that are read -/
def TabAt (w : World) (A : Option Addr) (rows : List (List Int)) : Prop := ∀ r, r < rows.length → ∃ b off A' c', A = some ⟨b, off, none⟩ ∧ w.cell? ⟨b, off + r, none⟩ = some (.slice A' (rows.getD r []).length c') ∧ RowAt w A' (rows.getD r [])
theorem TabAt.below {w w' : World} {A : Option Addr} {rows : List (List Int)} (h : TabAt w A rows) (hb : Below w.heap.size w w') : TabAt w' A rows := fun r hr => by
  obtain ⟨b, off, A', c', e, hc, hR⟩ := h r hr
  exact ⟨b, off, A', c', e, (hb.cell (World.block_lt_of_cell? w _ hc)).trans hc, hR.below hb⟩

def fitRow (n : Nat) (hi : Int) (l : List Int) : Bool := decide (l.length = n) && l.all fun x => decide (0 ≤ x) && decide (x ≤ hi)
def fitsB (rows : List (List Int)) (n : Nat) (hi : Int) : Bool := rows.all (fitRow n hi)
def validB (pre com : List (List Int)) : Bool :=
  decide (1 ≤ pre.length) && decide (pre.length ≤ 3) && decide (com.length = pre.length) && decide (1 ≤ (pre.getD 0 []).length) && decide ((pre.getD 0 []).length ≤ 7) && fitsB pre (pre.getD 0 []).length 3 && fitsB com (pre.getD 0 []).length 7

theorem all_of {α : Type} (p : α → Bool) (d : α) (l : List α) (h : ∀ j, j < l.length → p (l.getD j d) = true) : l.all p = true := by
  rw [List.all_eq_true]
  intro x hx
  obtain ⟨j, hj, rfl⟩ := List.getElem_of_mem hx
  have := h j hj
  simpa [List.getD, hj] using this
theorem not_all {α : Type} (p : α → Bool) (d : α) (l : List α) (j : Nat) (hj : j < l.length) (h : p (l.getD j d) = false) : l.all p = false := by
  cases e : l.all p
  · rfl
  · rw [List.all_eq_true] at e
    have := e l[j] (List.getElem_mem hj)
    simp [List.getD, hj] at h
    rw [h] at this; cases this

set_option maxHeartbeats 1600000 in
theorem fits_calls (rows : List (List Int)) (n : Nat) (hi : Int) (cap : Nat) (A : Option Addr) (w : World) (hl : rows.length ≤ 9223372036854775807) (hls : ∀ r, (rows.getD r []).length ≤ 9223372036854775807) (hn : n ≤ 9223372036854775807) (ht : TabAt w A rows) :
    Calls Try.prog 32 #[.slice A rows.length cap, .int .i64 (n : Int), .int .i64 hi] w fun e w' => e = .returned (.bool (fitsB rows n hi)) ∧ w = w' := by
  obtain ⟨len, hl0⟩ : ∃ len, rows.length = len := ⟨_, rfl⟩
  rw [hl0] at hl ⊢
  have HL := Lib.hid hl0
  have HLS := Lib.hid hls
  clear hl0 hls
  go_enter Try.func32, Try.ntmps32
  go_wp2_with fail
  go_loop [13] (fun i => ∃ k : Nat, k ≤ len ∧ i = .int .i64 k ∧ Hid (∀ j, j < k → fitRow n hi (rows.getD j []) = true)) (fun i => len - (intOf i).toNat)
  case atStart => exact ⟨0, by omega, rfl, fun j hj => by omega⟩
  case round =>
    obtain ⟨k, hk, rfl, hA⟩ := hrel
    by_cases hlt : k < len
    · obtain ⟨b, off, A', c', rfl, hcell, hR⟩ := ht k (by rw [HL.out]; exact hlt)
      have hm := HLS.out k
      obtain ⟨l, hl2⟩ : ∃ l, rows.getD k [] = l := ⟨_, rfl⟩
      rw [hl2] at hcell hR hm
      have HR := Lib.hid hl2
      clear hl2
      obtain ⟨m, hm2⟩ : ∃ m, l.length = m := ⟨_, rfl⟩
      rw [hm2] at hcell hm
      have HM := Lib.hid hm2
      clear hm2
      by_cases hmn : m = n
      · subst hmn
        have t1 : ((m : Int) != (m : Int)) = false := by simp
        have hdk : decide ((k : Int) < (len : Int)) = true := decide_eq_true (by omega)
        go_wp2_with fail
        go_loop [23] (fun i => ∃ j : Nat, j ≤ m ∧ i = .int .i64 j ∧ Hid (∀ x, x < j → 0 ≤ l.getD x 0 ∧ l.getD x 0 ≤ hi)) (fun i => m - (intOf i).toNat)
        case atStart => exact ⟨0, by omega, rfl, fun j hj => by omega⟩
        case round =>
          obtain ⟨j, hj, rfl, hJ⟩ := hrel
          by_cases hlt2 : j < m
          · obtain ⟨b2, off2, rfl, hcell2⟩ := hR j (by rw [HM.out]; exact hlt2)
            obtain ⟨x, hx⟩ : ∃ x, l.getD j 0 = x := ⟨_, rfl⟩
            rw [hx] at hcell2
            have HX := Lib.hid hx
            clear hx
            by_cases h0 : x < 0
            · have hres : fitsB rows m hi = false := by
                refine not_all _ [] rows k (by rw [HL.out]; exact hlt) ?_
                rw [HR.out]
                unfold fitRow
                rw [not_all _ 0 l j (by rw [HM.out]; exact hlt2) (by rw [HX.out]; simp; omega)]
                simp
              have HQ := Lib.hid hres
              clear hres
              go_wp2
              go_ret
              exact ⟨ret_bool HQ.out.symm, rfl⟩
            · by_cases h1 : hi < x
              · have hres : fitsB rows m hi = false := by
                  refine not_all _ [] rows k (by rw [HL.out]; exact hlt) ?_
                  rw [HR.out]
                  unfold fitRow
                  rw [not_all _ 0 l j (by rw [HM.out]; exact hlt2) (by rw [HX.out]; simp; omega)]
                  simp
                have HQ := Lib.hid hres
                clear hres
                go_wp2
                go_ret
                exact ⟨ret_bool HQ.out.symm, rfl⟩
              · have hJ2 : ∀ y, y < j + 1 → 0 ≤ l.getD y 0 ∧ l.getD y 0 ≤ hi := by
                  intro y hy
                  by_cases e : y = j
                  · subst e; rw [HX.out]; omega
                  · exact hJ.out y (by omega)
                have HJ2 := Lib.hid hJ2
                clear hJ2 hJ
                go_wp2
                go_round
                case rel => exact ⟨j + 1, by omega, by go_num, HJ2.out⟩
                case measure => simp [intOf]; omega
          · obtain rfl : j = m := by omega
            have hA2 : ∀ y, y < k + 1 → fitRow j hi (rows.getD y []) = true := by
              intro y hy
              by_cases e : y = k
              · subst e
                rw [HR.out]
                unfold fitRow
                rw [all_of _ 0 l (fun x hx => by have := hJ.out x (by rw [← HM.out]; exact hx); simp only [Bool.and_eq_true, decide_eq_true_eq]; exact this)]
                simp [HM.out]
              · exact hA.out y (by omega)
            have HA2 := Lib.hid hA2
            clear hA2 hA hJ
            go_wp2
            go_round
            case rel => exact ⟨k + 1, by omega, by go_num, HA2.out⟩
            case measure => simp [intOf]; omega
      · have t1 : ((m : Int) != (n : Int)) = true := by rw [bne_iff_ne]; omega
        have hres : fitsB rows n hi = false := by
          refine not_all _ [] rows k (by rw [HL.out]; exact hlt) ?_
          rw [HR.out]
          unfold fitRow
          rw [HM.out]
          simp [hmn]
        have HQ := Lib.hid hres
        clear hres hmn
        go_wp2
        go_ret
        exact ⟨ret_bool HQ.out.symm, rfl⟩
    · obtain rfl : k = len := by omega
      have hres : fitsB rows n hi = true := all_of _ [] rows (fun j hj => hA.out j (by rw [← HL.out]; exact hj))
      have HQ := Lib.hid hres
      clear hres
      go_wp2
      go_ret
      exact ⟨ret_bool HQ.out.symm, rfl⟩

end Go.Proofs.Ytmoemalkojckaaa.J
