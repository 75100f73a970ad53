import Derived.Test.YtmoemalkojckaaaProg
import Derived.Below
import Derived.Deep.Draws
import Derived.Deep.AppendLies
import Derived.OwnWalk
import Derived.Laws.MakeOwn
import Derived.Laws.OwnMore
import Derived.Deep.OwnRows
import Derived.Tactics
import Derived.Laws.Slices
import Derived.WalkKit
import Derived.KernelRfl
import Derived.RowKit3
import Derived.Deep.LoopGhost
import Derived.Deep.QuietTactic
import Derived.BigQuiet
import Derived.Deep.DeepCutAuto
import Derived.Deep.CutBlock
import Derived.Deep.RegionHeld3
import Derived.Laws.Rows
import Derived.Laws.BitsLemmas
import Derived.RowKit
import Derived.Lib.Hide
import Derived.WalkLawsBesides
import Derived.WalkSpells
import Derived.Deep.DeepFit
import Derived.Test.YtmoemalkojckaaaMath
namespace Go.Proofs.Ytmoemalkojckaaa.J
open Go.RowKit

theorem ret_int {k : IntKind} {a b : Int} (h : a = b) : Ending.returned (.int k a) = .returned (.int k b) := by rw [h]
theorem ret_bool {a b : Bool} (h : a = b) : Ending.returned (.bool a) = .returned (.bool b) := by rw [h]

/-- The number of bits of a set of ids. -/
def popc (x : Nat) : Nat := (List.range 10).countP fun i => x.testBit i

def oc64 (a : Int) : Int :=
  let x1 := IntKind.u64.wrap ((Go.bits .and .u64 (a / 2) 6148914691236517205) + (Go.bits .and .u64 a 6148914691236517205))
  let x2 := IntKind.u64.wrap ((Go.bits .and .u64 (x1 / 4) 3689348814741910323) + (Go.bits .and .u64 x1 3689348814741910323))
  let x3 := Go.bits .and .u64 (IntKind.u64.wrap (x2 / 16 + x2)) 1085102592571150095
  let x4 := IntKind.u64.wrap (x3 + x3 / 256)
  let x5 := IntKind.u64.wrap (x4 + x4 / 65536)
  let x6 := IntKind.u64.wrap (x5 + x5 / 4294967296)
  Go.bits .and .i64 (wrap64 x6) 127

theorem oc64_all : ∀ x : Fin 1024, oc64 (x.val : Int) = (popc x.val : Int) := by decide +kernel
theorem oc64_eq (x : Nat) (h : x < 1024) : oc64 (x : Int) = (popc x : Int) := oc64_all ⟨x, h⟩

set_option maxHeartbeats 800000 in
set_option maxRecDepth 100000 in
theorem oc64_calls (a : Int) (w : World) : Calls Try.prog 46 #[.int .u64 a] w fun e w' => e = .returned (.int .i64 (oc64 a)) ∧ w = w' := by
  go_enter Try.func46, Try.ntmps46
  go_wp2
  go_ret
  exact ⟨rfl, rfl⟩

theorem popc_calls33 (x : Nat) (hx : x < 1024) (w : World) : Calls Try.prog 33 #[.int .u64 (x : Int)] w fun e w' => e = .returned (.int .i64 (popc x : Int)) ∧ w = w' := by
  have H := Lib.hid (oc64_eq x hx)
  go_enter Try.func33, Try.ntmps33
  go_wp2_with (go_at_call 46; refine (oc64_calls _ _).mono ?_; rintro e w' ⟨rfl, rfl⟩)
  go_ret
  exact ⟨ret_int H.out, rfl⟩

theorem quorum_calls (n : Nat) (h1 : 1 ≤ n) (h7 : n ≤ 1000) (w : World) : Calls Try.prog 21 #[.int .i64 (n : Int)] w fun e w' => e = .returned (.int .i64 (JM.quorum n : Int)) ∧ w = w' := by
  go_enter Try.func21, Try.ntmps21
  go_wp2
  go_ret
  exact ⟨ret_int (by unfold JM.quorum; omega), rfl⟩
theorem quorum_calls29 (n : Nat) (h1 : 1 ≤ n) (h7 : n ≤ 1000) (w : World) : Calls Try.prog 29 #[.int .i64 (n : Int)] w fun e w' => e = .returned (.int .i64 (JM.quorum n : Int)) ∧ w = w' := by
  go_enter Try.func29, Try.ntmps29
  go_wp2
  go_ret
  exact ⟨ret_int (by unfold JM.quorum; omega), rfl⟩
theorem third_calls (n : Nat) (h1 : 1 ≤ n) (h7 : n ≤ 1000) (w : World) : Calls Try.prog 23 #[.int .i64 (n : Int)] w fun e w' => e = .returned (.int .i64 (JM.third n : Int)) ∧ w = w' := by
  go_enter Try.func23, Try.ntmps23
  go_wp2
  go_ret
  exact ⟨ret_int (by unfold JM.third; omega), rfl⟩

theorem and1023 (x : Nat) (hx : x < 1024) : Go.bits .and .i64 (x : Int) 1023 = (x : Int) := by
  have h := bits_mask .i64 20 (by decide) (fun n h0 h1 => by rw [IntKind.wrap_i64]; omega) 10 (by decide) (x : Int) (by omega) (by omega)
  have e : ((2 : Int) ^ 10 - 1) = 1023 := by decide
  rw [e] at h
  rw [h]
  omega

theorem size_calls (x : Nat) (hx : x < 1024) (w : World) : Calls Try.prog 22 #[.int .i64 (x : Int)] w fun e w' => e = .returned (.int .i64 (popc x : Int)) ∧ w = w' := by
  have H := Lib.hid (and1023 x hx)
  go_enter Try.func22, Try.ntmps22
  go_wp2_with fail
  rw [H.out]
  have e1 : IntKind.u64.wrap (x : Int) = (x : Int) := by unfold IntKind.wrap; simp [IntKind.bits, IntKind.signed]; omega
  rw [e1]
  refine (popc_calls33 x hx _).mono ?_
  rintro e w' ⟨rfl, rfl⟩
  go_wp2
  go_ret
  exact ⟨rfl, rfl⟩

end Go.Proofs.Ytmoemalkojckaaa.J
