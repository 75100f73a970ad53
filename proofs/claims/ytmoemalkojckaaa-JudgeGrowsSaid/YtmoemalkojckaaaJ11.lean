import Derived.Test.YtmoemalkojckaaaProg
import Derived.Below
import Derived.Deep.Draws
import Derived.Deep.AppendLies
import Derived.OwnWalk
import Derived.Laws.MakeOwn
import Derived.Laws.OwnMore
import Derived.Deep.OwnRows
import Derived.Tactics
import Derived.Laws.Slices
import Derived.WalkKit
import Derived.KernelRfl
import Derived.RowKit3
import Derived.Deep.LoopGhost
import Derived.Deep.QuietTactic
import Derived.BigQuiet
import Derived.Deep.DeepCutAuto
import Derived.Deep.CutBlock
import Derived.Deep.RegionHeld3
import Derived.Laws.Rows
import Derived.Laws.BitsLemmas
import Derived.RowKit
import Derived.Lib.Hide
import Derived.WalkLawsBesides
import Derived.WalkSpells
import Derived.Deep.DeepFit
import Derived.Test.YtmoemalkojckaaaJ10
namespace Go.Proofs.Ytmoemalkojckaaa.J
open Go.RowKit
set_option linter.unusedVariables false
set_option linter.unusedSimpArgs false

def itab (rows : List (List Nat)) : List (List Int) := rows.map ints
theorem itab_length (rows : List (List Nat)) : (itab rows).length = rows.length := List.length_map ..
theorem itab_getD (rows : List (List Nat)) (r : Nat) : (itab rows).getD r [] = ints (rows.getD r []) := by
  unfold itab
  by_cases h : r < rows.length
  · simp [List.getD, h]
  · simp [List.getD, h, ints]
def code2 (a b : Bool) : Nat := (if a then 1 else 0) + (if b then 2 else 0)
theorem code2_le (a b : Bool) : code2 a b ≤ 3 := by cases a <;> cases b <;> decide
theorem code2_or1 (a b : Bool) : Go.bits .or .i64 (code2 a b : Int) 1 = (code2 true b : Int) := by cases a <;> cases b <;> decide +kernel
theorem code2_or2 (a b : Bool) : Go.bits .or .i64 (code2 a b : Int) 2 = (code2 a true : Int) := by cases a <;> cases b <;> decide +kernel
theorem code2_and1 (a b : Bool) : (Go.bits .and .i64 (code2 a b : Int) 1 != 0) = a := by cases a <;> cases b <;> decide +kernel
theorem code2_and2 (a b : Bool) : (Go.bits .and .i64 (code2 a b : Int) 2 != 0) = b := by cases a <;> cases b <;> decide +kernel
theorem nxt_code (pre com : List Nat) (q : Nat) : JM.nxt pre com q = code2 (JM.nextC pre com q 1) (JM.nextC pre com q 2) := by
  unfold JM.nxt code2
  cases JM.nextC pre com q 1 <;> cases JM.nextC pre com q 2 <;> decide

/-- The possible choices after k of the two have been looked at. -/
def pK (n1 n2 q k : Nat) : Nat := (if 1 ≤ k ∧ q ≤ n1 then 1 else 0) ||| (if 2 ≤ k ∧ q ≤ n2 then 2 else 0)
theorem pK_le (n1 n2 q k : Nat) : pK n1 n2 q k ≤ 3 := by unfold pK; split <;> split <;> decide
theorem or_4 : ∀ x : Fin 4, Go.bits .or .i64 (x.val : Int) 4 = ((x.val ||| 4 : Nat) : Int) := by decide +kernel
theorem or4 {x : Nat} (h : x ≤ 3) : Go.bits .or .i64 (x : Int) 4 = ((x ||| 4 : Nat) : Int) := or_4 ⟨x, by omega⟩

theorem dec_step (q : Nat) (pre : List Nat) (pres : List (List Nat)) (c : List Nat) (cs : List (List Nat)) (com : List Nat) (h : com = JM.keep c (JM.poss pre q)) :
    JM.dec q pre pres (c :: cs) = (decide (q ≤ JM.cnt com 1) || (match pres with | [] => JM.dec q pre [] cs | p :: ps => JM.dec q (JM.keep p (JM.nxt pre com q)) ps cs).1,
      decide (q ≤ JM.cnt com 2) || (match pres with | [] => JM.dec q pre [] cs | p :: ps => JM.dec q (JM.keep p (JM.nxt pre com q)) ps cs).2) := by
  subst h
  cases pres <;> rfl

end Go.Proofs.Ytmoemalkojckaaa.J
