import Derived.Test.YtmoemalkojckaaaProg
import Derived.Below
import Derived.Deep.Draws
import Derived.Deep.AppendLies
import Derived.OwnWalk
import Derived.Laws.MakeOwn
import Derived.Laws.OwnMore
import Derived.Deep.OwnRows
import Derived.Tactics
import Derived.Laws.Slices
import Derived.WalkKit
import Derived.KernelRfl
import Derived.RowKit3
import Derived.Deep.LoopGhost
import Derived.Deep.QuietTactic
import Derived.BigQuiet
import Derived.Deep.DeepCutAuto
import Derived.Deep.CutBlock
import Derived.Deep.RegionHeld3
import Derived.Laws.Rows
import Derived.Laws.BitsLemmas
import Derived.RowKit
import Derived.Lib.Hide
import Derived.WalkLawsBesides
import Derived.WalkSpells
import Derived.Deep.DeepFit
import Derived.Test.YtmoemalkojckaaaJ2
namespace Go.Proofs.Ytmoemalkojckaaa.J
open Go.RowKit
set_option linter.unusedVariables false
set_option linter.unusedSimpArgs false

theorem zero3 (w : World) : (zeroValue 3).run Try.prog w = .ok (.int .i64 0) w := by kernel_rfl

theorem getD_lt {l : List Nat} {i : Nat} (h : i < l.length) : l[i] = l.getD i 0 := by simp [List.getD, h]

theorem drop_set_self (ds : List Nat) (k v : Nat) (h : k < ds.length) : (ds.set k v).drop k = v :: ds.drop (k + 1) := by
  rw [List.drop_eq_getElem_cons (by rw [List.length_set]; exact h), List.getElem_set_self, List.drop_set_of_lt (by omega)]

/-- 'clear' of the first n cells of a block of numbers. -/
theorem clear_blk (w : World) (bd : Nat) (ds : List Nat) (n c : Nat) (h : Blk w bd (nums ds) 3) (hn : n ≤ ds.length) :
    ∃ w', (∀ ty, (Builtin.clear_ #[45] ty #[.slice (some ⟨bd, 0, none⟩) n c]).run Try.prog w = .ok (.tuple #[]) w') ∧ Blk w' bd (nums (List.replicate n 0 ++ ds.drop n)) 3 ∧ w.grownBy w' (some bd) := by
  by_cases h0 : n = 0
  · subst h0
    exact ⟨w, fun ty => by simp [Builtin.clear_, run_underlying Try.underlying45], by simpa using h, World.grownBy.refl _ _⟩
  · refine ⟨w.setCells bd 0 (List.replicate n (.int .i64 0)), fun ty => Lib.run_clear_slice w 45 3 ty (.int .i64 0) Try.underlying45 zero3 rfl rfl bd 0 n c (by omega) (fun j hj => ?_) (fun j hj => h.free _), ?_, grownBy_setCells _ _ _ _⟩
    · rw [Nat.zero_add, h.cell j (nums_get ds j (by omega))]; rfl
    · have := h.setCells (List.replicate n (.int .i64 0)) w (nums ds) 0 (by rw [List.length_replicate, nums_length]; omega)
      simp only [List.take_zero, List.nil_append, List.length_replicate, Nat.zero_add] at this
      have e : nums (List.replicate n 0 ++ ds.drop n) = List.replicate n (.int .i64 0) ++ (nums ds).drop n := by simp [nums]
      rw [e]; exact this

set_option maxHeartbeats 1600000 in
set_option maxRecDepth 100000 in
theorem advance_calls (bd bc : Nat) (cs : List (List (Nat × Nat))) (ds : List Nat) (w : World) (hl : cs.length = ds.length) (hm : ds.length ≤ 1000) (hD : Blk w bd (nums ds) 3) (hC : ChoAt w bd bc cs) (h32 : ∀ d, ds.getD d 0 ≤ 1000) (c32 : ∀ d, (cs.getD d []).length ≤ 1000) :
    Calls Try.prog 38 #[.slice (some ⟨bc, 0, none⟩) ds.length ds.length, .slice (some ⟨bd, 0, none⟩) ds.length ds.length] w fun e w' => e = .returned (.tuple #[]) ∧ Blk w' bd (nums (adv (lens cs) ds)) 3 ∧ w.grownBy w' (some bd) := by
  obtain ⟨len, hlen⟩ : ∃ len, len = ds.length := ⟨_, rfl⟩
  rw [← hlen] at hl hm ⊢
  have HL := Lib.hid hlen
  have HC := Lib.hid hl
  clear hlen hl
  go_enter Try.func38, Try.ntmps38
  go_wp2_with fail
  go_loopw [7] (fun i wr => ∃ k n : Nat, k ≤ len ∧ i = .int .i64 k ∧ wr = w.drewN n ∧ Hid (∀ j, j < k → (lens cs).getD j 0 ≤ ds.getD j 0 + 1)) (fun i _ => len - (intOf i).toNat)
  case atStart => exact ⟨0, 0, by omega, rfl, rfl, fun j hj => by omega⟩
  case round =>
    obtain ⟨k, n, hk, rfl, rfl, hB⟩ := hrel
    by_cases hlt : k < len
    · have hx := hD.cell k (nums_get ds k (by rw [← HL.out]; exact hlt))
      rw [getD_lt] at hx
      obtain ⟨g, cap, hg, hy, -⟩ := hC.2 k (by rw [HC.out]; exact hlt)
      obtain ⟨x, hxv⟩ : ∃ x, ds.getD k 0 = x := ⟨_, rfl⟩
      obtain ⟨y, hyv⟩ : ∃ y, (cs.getD k []).length = y := ⟨_, rfl⟩
      have b1 : x ≤ 1000 := by rw [← hxv]; exact h32 k
      have b2 : y ≤ 1000 := by rw [← hyv]; exact c32 k
      rw [hxv] at hx
      rw [hyv] at hy
      have HX := Lib.hid hxv
      have HY := Lib.hid hyv
      clear hxv hyv
      have hf := hD.free k
      by_cases hgo : x + 1 < y
      · have hset : nums (ds.set k (x + 1)) = (nums ds).set k (.int .i64 ((x : Int) + 1)) := by
          unfold nums
          rw [List.map_set]
          rfl
        have hadv : nums (adv (lens cs) ds) = nums (List.replicate k 0 ++ (ds.set k (x + 1)).drop k) := by
          rw [adv_hit (lens cs) ds k (by unfold lens; rw [List.length_map, HC.out]; exact HL.out) (by rw [← HL.out]; exact hlt) hB.out (by rw [lens_get, HX.out, HY.out]; exact hgo), HX.out]
          rw [drop_set_self ds k (x + 1) (by rw [← HL.out]; exact hlt)]
        have hlt2 : k ≤ (ds.set k (x + 1)).length := by rw [List.length_set, ← HL.out]; omega
        have HA := Lib.hid hadv
        have HS := Lib.hid hset
        have HT := Lib.hid hlt2
        clear hadv hset hlt2
        go_wp2
        go_quiet (fail)
        have hDs := (hD.drewN (n + nq)).set k (.int .i64 ((x : Int) + 1))
        rw [← HS.out] at hDs
        obtain ⟨w2, hcl, hD2, hg2⟩ := clear_blk _ bd (ds.set k (x + 1)) k len hDs HT.out
        have HG := Lib.hid (grownBy_trans (grownBy_trans (grownBy_drewN w (n + nq) (some bd)) (grownBy_setCell (w.drewN (n + nq)) bd k (.int .i64 ((x : Int) + 1)))) hg2)
        have HD2 := Lib.hid hD2
        clear hDs hD2 hg2
        go_wp2
        refine bodyPost_ret (results_none rfl _ _ _) rfl ?_
        exact ⟨rfl, by rw [HA.out]; exact HD2.out, HG.out⟩
      · have hB2 : ∀ j, j < k + 1 → (lens cs).getD j 0 ≤ ds.getD j 0 + 1 := by
          intro j hj
          by_cases e : j = k
          · subst e
            rw [lens_get, HX.out, HY.out]
            omega
          · exact hB.out j (by omega)
        have HB2 := Lib.hid hB2
        clear hB2 hB
        go_wp2
        go_quiet (fail)
        go_wp2
        go_roundw
        case rel => exact ⟨k + 1, n + nq, by omega, by go_num, rfl, HB2.out⟩
        case measure => simp [intOf]; omega
    · obtain rfl : k = len := by omega
      obtain ⟨w2, hcl, hD2, hg2⟩ := clear_blk (w.drewN n) bd ds k k (hD.drewN n) (by rw [HL.out]; omega)
      have hadv : nums (adv (lens cs) ds) = nums (List.replicate k 0 ++ ds.drop k) := by
        rw [adv_end (lens cs) ds (by unfold lens; rw [List.length_map, HC.out]; exact HL.out) (by rw [← HL.out]; exact hB.out), HL.out]
        simp
      have HG := Lib.hid (grownBy_trans (grownBy_drewN w n (some bd)) hg2)
      have HD2 := Lib.hid hD2
      have HA := Lib.hid hadv
      clear hD2 hg2 hadv hB
      go_wp2
      go_end0
      exact ⟨rfl, by rw [HA.out]; exact HD2.out, HG.out⟩

end Go.Proofs.Ytmoemalkojckaaa.J
