import Derived.Test.YtmoemalkojckaaaProg
import Derived.Below
import Derived.Deep.Draws
import Derived.Deep.AppendLies
import Derived.OwnWalk
import Derived.Laws.MakeOwn
import Derived.Laws.OwnMore
import Derived.Deep.OwnRows
import Derived.Tactics
import Derived.Laws.Slices
import Derived.WalkKit
import Derived.KernelRfl
import Derived.RowKit3
import Derived.Deep.LoopGhost
import Derived.Deep.QuietTactic
import Derived.BigQuiet
import Derived.Deep.DeepCutAuto
import Derived.Deep.CutBlock
import Derived.Deep.RegionHeld3
import Derived.Laws.Rows
import Derived.Laws.BitsLemmas
import Derived.RowKit
import Derived.Lib.Hide
import Derived.WalkLawsBesides
import Derived.WalkSpells
import Derived.Deep.DeepFit
import Derived.Test.YtmoemalkojckaaaS4
import Derived.Test.YtmoemalkojckaaaD2
namespace Go.Proofs.Ytmoemalkojckaaa.J
open Go.RowKit
set_option linter.unusedVariables false
set_option linter.unusedSimpArgs false

theorem both_search (m R L : Int) : ∃ t f l e : Int, (∀ w, Calls Try.prog 18 #[.int .i64 m, .int .i64 R, .int .i64 L] w fun x w' => x = .returned (resV t f l e) ∧ Below w.heap.size w w') ∧
    (∀ w, Calls Try.prog 19 #[.int .i64 m, .int .i64 R, .int .i64 L] w fun x w' => x = .returned (resV t f l e) ∧ Below w.heap.size w w') := by
  by_cases h : m < 1 ∨ 7 < m ∨ R < 1 ∨ 3 < R ∨ L < 0 ∨ m < L
  · exact ⟨0, 0, 0, 1, fun w => search_bad m R L w h, fun w => rsearch_bad m R L w h⟩
  · obtain ⟨m, rfl⟩ : ∃ k : Nat, m = k := ⟨m.toNat, by omega⟩
    obtain ⟨R, rfl⟩ : ∃ k : Nat, R = k := ⟨R.toNat, by omega⟩
    obtain ⟨L, rfl⟩ : ∃ k : Nat, L = k := ⟨L.toNat, by omega⟩
    have a := fun w => search_good m R L w (by omega) (by omega) (by omega) (by omega) (by omega)
    have b := fun w => rsearch_good m R L w (by omega) (by omega) (by omega) (by omega) (by omega)
    by_cases hf : 1048576 < prodK m R L (m * R)
    · refine ⟨0, 0, 0, 5, fun w => (a w).mono ?_, fun w => (b w).mono ?_⟩
      · rintro e w' ⟨h1, h2⟩
        rw [if_pos hf] at h1
        exact ⟨h1, h2⟩
      · rintro e w' ⟨h1, h2⟩
        rw [if_pos hf] at h1
        exact ⟨h1, h2⟩
    · refine ⟨(prodK m R L (m * R) : Nat), ((seek m (m * R) (chs m R L) (lens (chs m R L)) (prodK m R L (m * R))).1 : Nat), (seek m (m * R) (chs m R L) (lens (chs m R L)) (prodK m R L (m * R))).2, 0, fun w => (a w).mono ?_, fun w => (b w).mono ?_⟩
      · rintro e w' ⟨h1, h2⟩
        rw [if_neg hf] at h1
        exact ⟨h1, h2⟩
      · rintro e w' ⟨h1, h2⟩
        rw [if_neg hf] at h1
        exact ⟨h1, h2⟩

set_option maxHeartbeats 1600000 in
set_option maxRecDepth 100000 in
theorem searches_calls (m R L : Int) (w : World) : Calls Try.prog 4 #[.int .i64 m, .int .i64 R, .int .i64 L] w fun e w' => e = .returned (.bool true) ∧ Below w.heap.size w w' := by
  obtain ⟨t, f, l, er, h18, h19⟩ := both_search m R L
  unfold resV at h18 h19
  have H18 := Lib.hid h18
  have H19 := Lib.hid h19
  have HAW := Lib.hid awake_calls
  clear h18 h19
  go_enter Try.func4, Try.ntmps4
  go_wp2_with fail
  refine (H18.out _).mono ?_
  rintro e w1 ⟨rfl, hb1⟩
  have hs1 := hb1.size
  have HB1 := Lib.hid hb1
  clear hb1
  go_wp2_with fail
  refine (H19.out _).mono ?_
  rintro e w2 ⟨rfl, hb2⟩
  have hbx := Blk.new w1 #[.int .i64 t, .int .i64 f, .int .i64 l] 37
  have hbx2 := hbx.below hb2 (by simp)
  have x0 := hbx2.cell 0 rfl
  have x1 := hbx2.cell 1 rfl
  have x2 := hbx2.cell 2 rfl
  have HB2 := Lib.hid ((HB1.out.alloc hs1 (.cells #[.int .i64 t, .int .i64 f, .int .i64 l] 37)).trans (hb2.mono (by simp; omega)))
  have hs2 := HB2.out.size
  have hlt : w1.heap.size < w2.heap.size := hbx2.lt
  clear hb2 hbx hbx2
  go_wp2_with fail
  refine (HAW.out _).mono ?_
  rintro e w3 ⟨rfl, hb3⟩
  have HB3 := Lib.hid ((HB2.out.alloc hs2 (.cells #[.int .i64 t, .int .i64 f, .int .i64 l] 41)).trans (hb3.mono (by simp; omega)))
  clear hb3
  go_wp2
  go_ret
  exact ⟨rfl, HB3.out⟩

end Go.Proofs.Ytmoemalkojckaaa.J
