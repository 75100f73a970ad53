import Derived.Test.YtmoemalkojckaaaProg
import Derived.Below
import Derived.Deep.Draws
import Derived.Deep.AppendLies
import Derived.OwnWalk
import Derived.Laws.MakeOwn
import Derived.Laws.OwnMore
import Derived.Deep.OwnRows
import Derived.Tactics
import Derived.Laws.Slices
import Derived.WalkKit
import Derived.KernelRfl
import Derived.RowKit3
import Derived.Deep.LoopGhost
import Derived.Deep.QuietTactic
import Derived.BigQuiet
import Derived.Deep.DeepCutAuto
import Derived.Deep.CutBlock
import Derived.Deep.RegionHeld3
import Derived.Laws.Rows
import Derived.Laws.BitsLemmas
import Derived.RowKit
import Derived.Lib.Hide
import Derived.WalkLawsBesides
import Derived.WalkSpells
import Derived.Deep.DeepFit
import Derived.Test.YtmoemalkojckaaaJ20
namespace Go.Proofs.Ytmoemalkojckaaa.J
open Go.RowKit
set_option linter.unusedVariables false
set_option linter.unusedSimpArgs false

set_option maxHeartbeats 1600000 in
set_option maxRecDepth 100000 in
theorem tight_calls (a : Int) (w : World) : Calls Try.prog 6 #[.int .i64 a] w fun e w' => e = .returned (.bool true) ∧ Below w.heap.size w w' := by
  have hu : 0 ≤ IntKind.u64.wrap a := by unfold IntKind.wrap; simp [IntKind.bits, IntKind.signed]; omega
  obtain ⟨m, hm⟩ : ∃ m : Nat, IntKind.u64.wrap a % 4 = (m : Int) := ⟨(IntKind.u64.wrap a % 4).toNat, by omega⟩
  have hm4 : m < 4 := by omega
  obtain ⟨n, hnm⟩ : ∃ n : Nat, n = 1 + m := ⟨_, rfl⟩
  have hnI : 1 + (m : Int) = (n : Int) := by omega
  have hn1 : 1 ≤ n := by omega
  have hn4 : n ≤ 4 := by omega
  obtain ⟨c, hc, c1, c2, p1, p2, s1, s2, s3⟩ := tight n hn1 hn4
  have HQ := Lib.hid (fun wx => quorum_calls n hn1 (by omega) wx)
  obtain ⟨q, hq⟩ : ∃ q, JM.quorum n = q := ⟨_, rfl⟩
  rw [hq] at hc HQ
  have hcI : 2 * (q : Int) - (n : Int) = (c : Int) := by omega
  obtain ⟨c', hc'⟩ : ∃ c' : Nat, c - 1 = c' := ⟨_, rfl⟩
  have hcI' : (c : Int) - 1 = (c' : Int) := by omega
  rw [hc'] at p2 s3
  obtain ⟨f, hf⟩ : ∃ f, (seek n (n * 1) (chs n 1 c) (lens (chs n 1 c)) (prodK n 1 c (n * 1))).1 = f := ⟨_, rfl⟩
  rw [hf] at s1
  have hsk : seek n (n * 1) (chs n 1 c) (lens (chs n 1 c)) (prodK n 1 c (n * 1)) = (f, (c : Int)) := Prod.ext hf s2
  have hpp := prodK_pos n 1 c' (n * 1)
  have fbound := (seek_le n (n * 1) (chs n 1 c) (lens (chs n 1 c)) (prodK n 1 c (n * 1))).1
  rw [hf] at fbound
  have HA := Lib.hid (fun wx => search_ok n 1 c wx hn1 (by omega) (by decide) (by decide) c2 _ f c rfl p1 hsk)
  have HB := Lib.hid (fun wx => search_ok n 1 c' wx hn1 (by omega) (by decide) (by decide) (by omega) _ 0 (-1) rfl p2 s3)
  obtain ⟨t1, ht1⟩ : ∃ t, prodK n 1 c (n * 1) = t := ⟨_, rfl⟩
  obtain ⟨t2, ht2⟩ : ∃ t, prodK n 1 c' (n * 1) = t := ⟨_, rfl⟩
  rw [ht1] at HA p1 fbound
  rw [ht2] at HB p2 hpp
  have hqb : q ≤ 1000 := by omega
  have e1 : ((1 : Nat) : Int) = 1 := rfl
  rw [e1] at HA HB
  have f1 : decide ((f : Int) > 0) = true := decide_eq_true (by omega)
  clear hc hq hf hsk s2 s3 ht1 ht2 hc' hnm e1
  have HAW := Lib.hid awake_calls
  go_enter Try.func6, Try.ntmps6
  go_wp2_with fail
  refine (HQ.out _).mono ?_
  rintro e w' ⟨rfl, rfl⟩
  go_wp2_with fail
  refine (HA.out _).mono ?_
  rintro e w1 ⟨rfl, hb1⟩
  have hs1 := hb1.size
  have HB1 := Lib.hid hb1
  clear hb1
  go_wp2_with fail
  refine (HB.out _).mono ?_
  rintro e w2 ⟨rfl, hb2⟩
  have hbx := Blk.new w1 #[.int .i64 (t1 : Int), .int .i64 (f : Int), .int .i64 (c : Int)] 37
  have hbx2 := hbx.below hb2 (by simp)
  have x0 := hbx2.cell 0 rfl
  have x1 := hbx2.cell 1 rfl
  have x2 := hbx2.cell 2 rfl
  have HB2 := Lib.hid ((HB1.out.alloc hs1 (.cells #[.int .i64 (t1 : Int), .int .i64 (f : Int), .int .i64 (c : Int)] 37)).trans (hb2.mono (by simp; omega)))
  have hs2 := HB2.out.size
  have hlt : w1.heap.size < w2.heap.size := hbx2.lt
  clear hb2 hbx hbx2
  go_wp2_with fail
  refine (HAW.out _).mono ?_
  rintro e w3 ⟨rfl, hb3⟩
  have HB3 := Lib.hid ((HB2.out.alloc hs2 (.cells #[.int .i64 (t2 : Int), .int .i64 0, .int .i64 (-1)] 37)).trans (hb3.mono (by simp; omega)))
  clear hb3
  go_wp2
  go_ret
  exact ⟨rfl, HB3.out⟩

set_option maxHeartbeats 1600000 in
set_option maxRecDepth 100000 in
theorem rounds_calls (w : World) : Calls Try.prog 7 #[] w fun e w' => e = .returned (.bool true) ∧ Below w.heap.size w w' := by
  obtain ⟨p1, s1, s2⟩ := rounds2
  obtain ⟨p2, s3, s4⟩ := rounds3
  obtain ⟨f, hf⟩ : ∃ f, (seek 1 (1 * 2) (chs 1 2 1) (lens (chs 1 2 1)) (prodK 1 2 1 (1 * 2))).1 = f := ⟨_, rfl⟩
  obtain ⟨g, hg⟩ : ∃ f, (seek 1 (1 * 3) (chs 1 3 1) (lens (chs 1 3 1)) (prodK 1 3 1 (1 * 3))).1 = f := ⟨_, rfl⟩
  have fbound := (seek_le 1 (1 * 2) (chs 1 2 1) (lens (chs 1 2 1)) (prodK 1 2 1 (1 * 2))).1
  have gbound := (seek_le 1 (1 * 3) (chs 1 3 1) (lens (chs 1 3 1)) (prodK 1 3 1 (1 * 3))).1
  have hskf : seek 1 (1 * 2) (chs 1 2 1) (lens (chs 1 2 1)) (prodK 1 2 1 (1 * 2)) = (f, 1) := Prod.ext hf s2
  have hskg : seek 1 (1 * 3) (chs 1 3 1) (lens (chs 1 3 1)) (prodK 1 3 1 (1 * 3)) = (g, 1) := Prod.ext hg s4
  rw [hf] at s1 fbound
  rw [hg] at s3 gbound
  rw [p1] at fbound
  rw [p2] at gbound
  have H1 : ∀ wx, Calls Try.prog 18 #[.int .i64 1, .int .i64 2, .int .i64 1] wx fun e w' => e = .returned (.tuple #[.agg #[.int .i64 1024, .int .i64 (f : Int), .int .i64 1], .int .i64 0]) ∧ Below wx.heap.size wx w' := fun wx =>
    search_ok 1 2 1 wx (by decide) (by decide) (by decide) (by decide) (by decide) 1024 f 1 p1 (by decide) hskf
  have H2 : ∀ wx, Calls Try.prog 18 #[.int .i64 1, .int .i64 3, .int .i64 1] wx fun e w' => e = .returned (.tuple #[.agg #[.int .i64 32768, .int .i64 (g : Int), .int .i64 1], .int .i64 0]) ∧ Below wx.heap.size wx w' := fun wx =>
    search_ok 1 3 1 wx (by decide) (by decide) (by decide) (by decide) (by decide) 32768 g 1 p2 (by decide) hskg
  have HA := Lib.hid H1
  have HB := Lib.hid H2
  have HAW := Lib.hid awake_calls
  have f1 : decide ((f : Int) > 0) = true := decide_eq_true (by omega)
  have g1 : decide ((g : Int) > 0) = true := decide_eq_true (by omega)
  clear H1 H2 hf hg hskf hskg s2 s4 p1 p2
  go_enter Try.func7, Try.ntmps7
  go_wp2_with fail
  refine (HA.out _).mono ?_
  rintro e w1 ⟨rfl, hb1⟩
  have hs1 := hb1.size
  have HB1 := Lib.hid hb1
  clear hb1
  go_wp2_with fail
  refine (HB.out _).mono ?_
  rintro e w2 ⟨rfl, hb2⟩
  have hbx := Blk.new w1 #[.int .i64 1024, .int .i64 (f : Int), .int .i64 1] 37
  have hbx2 := hbx.below hb2 (by simp)
  have x0 := hbx2.cell 0 rfl
  have x1 := hbx2.cell 1 rfl
  have x2 := hbx2.cell 2 rfl
  have HB2 := Lib.hid ((HB1.out.alloc hs1 (.cells #[.int .i64 1024, .int .i64 (f : Int), .int .i64 1] 37)).trans (hb2.mono (by simp; omega)))
  have hs2 := HB2.out.size
  have hlt : w1.heap.size < w2.heap.size := hbx2.lt
  clear hb2 hbx hbx2
  go_wp2_with fail
  refine (HAW.out _).mono ?_
  rintro e w3 ⟨rfl, hb3⟩
  have HB3 := Lib.hid ((HB2.out.alloc hs2 (.cells #[.int .i64 32768, .int .i64 (g : Int), .int .i64 1] 37)).trans (hb3.mono (by simp; omega)))
  clear hb3
  go_wp2
  go_ret
  exact ⟨rfl, HB3.out⟩

end Go.Proofs.Ytmoemalkojckaaa.J
