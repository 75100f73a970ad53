import Derived.Test.YtmoemalkojckaaaProg
import Derived.Below
import Derived.Deep.Draws
import Derived.Deep.AppendLies
import Derived.OwnWalk
import Derived.Laws.MakeOwn
import Derived.Laws.OwnMore
import Derived.Deep.OwnRows
import Derived.Tactics
import Derived.Laws.Slices
import Derived.WalkKit
import Derived.KernelRfl
import Derived.RowKit3
import Derived.Deep.LoopGhost
import Derived.Deep.QuietTactic
import Derived.BigQuiet
import Derived.Deep.DeepCutAuto
import Derived.Deep.CutBlock
import Derived.Deep.RegionHeld3
import Derived.Laws.Rows
import Derived.Laws.BitsLemmas
import Derived.RowKit
import Derived.Lib.Hide
import Derived.WalkLawsBesides
import Derived.WalkSpells
import Derived.Deep.DeepFit
import Derived.Test.YtmoemalkojckaaaR4
namespace Go.Proofs.Ytmoemalkojckaaa.J
open Go.RowKit
set_option linter.unusedVariables false
set_option linter.unusedSimpArgs false

set_option maxHeartbeats 800000 in
set_option maxRecDepth 100000 in
theorem rdecidable_bad (P C : List (List Int)) (A0 A1 : Option Addr) (c0 c1 : Nat) (w : World) (ht : Tab w A0 A1 P C) (hvB : validB P C = false) :
    Calls Try.prog 11 #[.agg #[.slice A0 P.length c0, .slice A1 C.length c1]] w fun e w' => e = .returned (.tuple #[.bool false, .bool false]) ∧ Below w.heap.size w w' := by
  have hbel : Below w.heap.size w (w.alloc (.cells #[.slice A0 P.length c0, .slice A1 C.length c1] 28)) := (Below.refl _ _).alloc (Nat.le_refl _) _
  have HV := Lib.hid (fun wx (hx : Tab wx A0 A1 P C) => rvalid_calls P C A0 A1 c0 c1 wx hx)
  rw [hvB] at HV
  have HT := Lib.hid (ht.below hbel)
  have HB := Lib.hid hbel
  clear ht hvB hbel
  go_enter Try.func11, Try.ntmps11
  go_wp2_with fail
  refine (HV.out _ HT.out).mono ?_
  rintro e w2 ⟨rfl, hb2⟩
  have HB2 := Lib.hid (HB.out.trans (hb2.mono (by simp)))
  clear hb2
  go_wp2
  go_ret2
  exact ⟨rfl, HB2.out⟩

/-- The possible choices of the round before, as the reference keeps them: none ahead of round 0. -/
def PC (w : World) (v7 v8 : Value) (pp cc : List Nat) (n r : Nat) : Prop :=
  (r = 0 ∧ pp = [] ∧ cc = [] ∧ v7 = .slice none 0 0 ∧ v8 = .slice none 0 0) ∨
  (r ≠ 0 ∧ pp.length = n ∧ cc.length = n ∧ (∀ x ∈ pp, x ≤ 3) ∧ (∀ x ∈ cc, x ≤ 7) ∧ ∃ b7 b8, v7 = .slice (some ⟨b7, 0, none⟩) n n ∧ v8 = .slice (some ⟨b8, 0, none⟩) n n ∧ Blk w b7 (nums pp) 3 ∧ Blk w b8 (nums cc) 3)
def canR (r : Nat) (pp cc : List Nat) (q : Nat) : Nat := if r = 0 then 3 else JM.nxt pp cc q
theorem canR_le (r : Nat) (pp cc : List Nat) (q : Nat) : canR r pp cc q ≤ 3 := by
  unfold canR
  split
  · omega
  · exact JM.nxt_le _ _ _
theorem keep3 (l : List Nat) (h : ∀ x ∈ l, x ≤ 3) : JM.keep l 3 = l := by
  unfold JM.keep
  have : ∀ x ∈ l, (fun x => x &&& 3) x = id x := fun x hx => by
    have := h x hx
    have : x = 0 ∨ x = 1 ∨ x = 2 ∨ x = 3 := by omega
    rcases this with rfl | rfl | rfl | rfl <;> rfl
  rw [List.map_congr_left this, List.map_id]

/-- A round of the reference, in plain numbers. -/
theorem ref_step (q : Nat) (pre com : List (List Nat)) (r : Nat) (pp cc : List Nat) (hr : r < pre.length) (hl : pre.length = com.length) (e1 e2 : Bool) (dd : Bool × Bool)
    (h : dd = (e1 || (JM.dec q (JM.keep (pre.getD r []) (canR r pp cc q)) (pre.drop (r + 1)) (com.drop r)).1, e2 || (JM.dec q (JM.keep (pre.getD r []) (canR r pp cc q)) (pre.drop (r + 1)) (com.drop r)).2))
    (p cm : List Nat) (hp : p = JM.keep (pre.getD r []) (canR r pp cc q)) (hc : cm = JM.keep (com.getD r []) (JM.poss p q)) :
    dd = ((e1 || decide (q ≤ JM.cnt cm 1)) || (JM.dec q (JM.keep (pre.getD (r + 1) []) (canR (r + 1) p cm q)) (pre.drop (r + 2)) (com.drop (r + 1))).1,
      (e2 || decide (q ≤ JM.cnt cm 2)) || (JM.dec q (JM.keep (pre.getD (r + 1) []) (canR (r + 1) p cm q)) (pre.drop (r + 2)) (com.drop (r + 1))).2) := by
  have hrc : r < com.length := by omega
  have ec : com.drop r = com.getD r [] :: com.drop (r + 1) := by
    rw [List.drop_eq_getElem_cons hrc]
    congr 1
    simp [List.getD, hrc]
  rw [← hp, ec, dec_step q p (pre.drop (r + 1)) (com.getD r []) (com.drop (r + 1)) cm hc] at h
  have ecan : canR (r + 1) p cm q = JM.nxt p cm q := rfl
  rw [ecan]
  by_cases hr2 : r + 1 < pre.length
  · have ep : pre.drop (r + 1) = pre.getD (r + 1) [] :: pre.drop (r + 2) := by
      rw [List.drop_eq_getElem_cons hr2]
      congr 1
      simp [List.getD, hr2]
    rw [ep] at h
    rw [h]
    simp only [Bool.or_assoc]
  · have ep : pre.drop (r + 1) = [] := List.drop_eq_nil_of_le (by omega)
    have ec2 : com.drop (r + 1) = [] := List.drop_eq_nil_of_le (by omega)
    rw [ep, ec2] at h
    rw [ec2, h]
    simp [JM.dec]

end Go.Proofs.Ytmoemalkojckaaa.J
