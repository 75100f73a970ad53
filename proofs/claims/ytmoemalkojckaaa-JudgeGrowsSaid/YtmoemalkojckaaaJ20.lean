import Derived.Test.YtmoemalkojckaaaProg
import Derived.Below
import Derived.Deep.Draws
import Derived.Deep.AppendLies
import Derived.OwnWalk
import Derived.Laws.MakeOwn
import Derived.Laws.OwnMore
import Derived.Deep.OwnRows
import Derived.Tactics
import Derived.Laws.Slices
import Derived.WalkKit
import Derived.KernelRfl
import Derived.RowKit3
import Derived.Deep.LoopGhost
import Derived.Deep.QuietTactic
import Derived.BigQuiet
import Derived.Deep.DeepCutAuto
import Derived.Deep.CutBlock
import Derived.Deep.RegionHeld3
import Derived.Laws.Rows
import Derived.Laws.BitsLemmas
import Derived.RowKit
import Derived.Lib.Hide
import Derived.WalkLawsBesides
import Derived.WalkSpells
import Derived.Deep.DeepFit
import Derived.Test.YtmoemalkojckaaaJ18
import Derived.Test.YtmoemalkojckaaaJ19
namespace Go.Proofs.Ytmoemalkojckaaa.J
open Go.RowKit
set_option linter.unusedVariables false
set_option linter.unusedSimpArgs false

theorem search_ok (n R L : Nat) (w : World) (hn : 1 ≤ n) (hn7 : n ≤ 7) (hR : 1 ≤ R) (hR3 : R ≤ 3) (hL : L ≤ n) (t f : Nat) (l : Int) (ht : prodK n R L (n * R) = t) (h : t ≤ 1048576) (hs : seek n (n * R) (chs n R L) (lens (chs n R L)) (prodK n R L (n * R)) = (f, l)) :
    Calls Try.prog 18 #[.int .i64 (n : Int), .int .i64 (R : Int), .int .i64 (L : Int)] w fun e w' => e = .returned (.tuple #[.agg #[.int .i64 (t : Int), .int .i64 (f : Int), .int .i64 l], .int .i64 0]) ∧ Below w.heap.size w w' := by
  refine (search_good n R L w hn hn7 hR hR3 hL).mono ?_
  rintro e w' ⟨he, hb⟩
  rw [if_neg (by omega), hs, ht] at he
  exact ⟨he, hb⟩

set_option maxHeartbeats 1600000 in
set_option maxRecDepth 100000 in
theorem awake_calls (w : World) : Calls Try.prog 17 #[] w fun e w' => e = .returned (.bool true) ∧ Below w.heap.size w w' := by
  have H1 : ∀ wx, Calls Try.prog 18 #[.int .i64 1, .int .i64 1, .int .i64 0] wx fun e w' => e = .returned (.tuple #[.agg #[.int .i64 12, .int .i64 0, .int .i64 (-1)], .int .i64 0]) ∧ Below wx.heap.size wx w' := fun wx =>
    search_ok 1 1 0 wx (by decide) (by decide) (by decide) (by decide) (by decide) 12 0 (-1) awakeT.1 (by decide) awakeT.2
  have H2 : ∀ wx, Calls Try.prog 18 #[.int .i64 0, .int .i64 1, .int .i64 0] wx fun e w' => e = .returned (.tuple #[.agg #[.int .i64 0, .int .i64 0, .int .i64 0], .int .i64 1]) ∧ Below wx.heap.size wx w' := fun wx =>
    search_bad 0 1 0 wx (by omega)
  have K1 := Lib.hid H1
  have K2 := Lib.hid H2
  clear H1 H2
  go_enter Try.func17, Try.ntmps17
  go_wp2_with fail
  refine (K1.out _).mono ?_
  rintro e w1 ⟨rfl, hb1⟩
  have hs1 := hb1.size
  have HB1 := Lib.hid hb1
  clear hb1
  go_wp2_with fail
  refine (K2.out _).mono ?_
  rintro e w2 ⟨rfl, hb2⟩
  have hbx := Blk.new w1 #[.int .i64 12, .int .i64 0, .int .i64 (-1)] 37
  have hbx2 := hbx.below hb2 (by simp)
  have x0 := hbx2.cell 0 rfl
  have x1 := hbx2.cell 1 rfl
  have x2 := hbx2.cell 2 rfl
  have HB2 := Lib.hid ((HB1.out.alloc hs1 (.cells #[.int .i64 12, .int .i64 0, .int .i64 (-1)] 37)).trans (hb2.mono (by simp; omega)))
  have hs2 := HB2.out.size
  have hlt : w1.heap.size < w2.heap.size := hbx2.lt
  clear hb2 hbx hbx2
  go_wp2
  go_ret
  exact ⟨rfl, HB2.out.alloc hs2 _⟩

end Go.Proofs.Ytmoemalkojckaaa.J
