import Derived.Test.YtmoemalkojckaaaProg
import Derived.Below
import Derived.Deep.Draws
import Derived.Deep.AppendLies
import Derived.OwnWalk
import Derived.Laws.MakeOwn
import Derived.Laws.OwnMore
import Derived.Deep.OwnRows
import Derived.Tactics
import Derived.Laws.Slices
import Derived.WalkKit
import Derived.KernelRfl
import Derived.RowKit3
import Derived.Deep.LoopGhost
import Derived.Deep.QuietTactic
import Derived.BigQuiet
import Derived.Deep.DeepCutAuto
import Derived.Deep.CutBlock
import Derived.Deep.RegionHeld3
import Derived.Laws.Rows
import Derived.Laws.BitsLemmas
import Derived.RowKit
import Derived.Lib.Hide
import Derived.WalkLawsBesides
import Derived.WalkSpells
import Derived.Deep.DeepFit
import Derived.Test.YtmoemalkojckaaaJ22
namespace Go.Proofs.Ytmoemalkojckaaa.J
open Go.RowKit
set_option linter.unusedVariables false
set_option linter.unusedSimpArgs false

theorem u64_nonneg (a : Int) : 0 ≤ IntKind.u64.wrap a := by unfold IntKind.wrap; simp [IntKind.bits, IntKind.signed]; omega

set_option maxHeartbeats 800000 in
theorem next_calls (tape : List Int) (at_ m cap ba bt : Nat) (A : Option Addr) (w : World) (hm : 1 ≤ m) (hm8 : m ≤ 8) (hat : at_ ≤ 1000000) (htl : tape.length ≤ 9223372036854775807)
    (hA : w.cell? ⟨ba, 0, none⟩ = some (.int .i64 (at_ : Int))) (hF : w.frozen? ⟨ba, 0, none⟩ = false) (hT : w.cell? ⟨bt, 0, none⟩ = some (.slice A tape.length cap)) (hR : RowAt w A tape) :
    Calls Try.prog 40 #[.int .i64 (m : Int), .pointer (some ⟨ba, 0, none⟩), .pointer (some ⟨bt, 0, none⟩)] w fun e w' => e = .returned (.int .i64 (tv tape at_ m : Nat)) ∧ w' = w.setCell ⟨ba, 0, none⟩ (.int .i64 ((at_ : Int) + 1)) := by
  have hdef : tv tape at_ m = if at_ < tape.length then (IntKind.u64.wrap (tape.getD at_ 0) % (m : Int)).toNat else 0 := rfl
  have hmu : IntKind.u64.wrap (m : Int) = (m : Int) := u64_small m (by omega)
  have hm0 : ((m : Int) == 0) = false := by rw [beq_eq_false_iff_ne]; omega
  by_cases hlt : at_ < tape.length
  · obtain ⟨b, off, rfl, hc⟩ := hR at_ hlt
    rw [if_pos hlt] at hdef
    have hu := u64_nonneg (tape.getD at_ 0)
    generalize tape.getD at_ 0 = x at *
    have hv : IntKind.u64.wrap x % (m : Int) = ((tv tape at_ m : Nat) : Int) := by
      rw [hdef]
      have := Int.emod_nonneg (IntKind.u64.wrap x) (show (m : Int) ≠ 0 by omega)
      omega
    have hlt8 : tv tape at_ m < 8 := by
      have := tv_lt tape at_ m hm; omega
    obtain ⟨r, hr⟩ : ∃ r, tv tape at_ m = r := ⟨_, rfl⟩
    rw [hr] at hv hlt8 ⊢
    obtain ⟨len, hlen⟩ : ∃ len, tape.length = len := ⟨_, rfl⟩
    rw [hlen] at hlt htl hT
    clear hdef hr hlen hR
    go_enter Try.func40, Try.ntmps40
    go_wp2
    go_ret
    exact ⟨rfl, rfl⟩
  · rw [if_neg hlt] at hdef
    obtain ⟨r, hr⟩ : ∃ r, tv tape at_ m = r := ⟨_, rfl⟩
    rw [hr] at hdef ⊢
    subst hdef
    obtain ⟨len, hlen⟩ : ∃ len, tape.length = len := ⟨_, rfl⟩
    rw [hlen] at hlt htl hT
    clear hr hlen hR
    go_enter Try.func40, Try.ntmps40
    go_wp2
    go_ret
    exact ⟨rfl, rfl⟩

end Go.Proofs.Ytmoemalkojckaaa.J
