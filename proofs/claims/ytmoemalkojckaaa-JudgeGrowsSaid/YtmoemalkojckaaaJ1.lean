import Derived.Test.YtmoemalkojckaaaProg
import Derived.Below
import Derived.Deep.Draws
import Derived.Deep.AppendLies
import Derived.OwnWalk
import Derived.Laws.MakeOwn
import Derived.Laws.OwnMore
import Derived.Deep.OwnRows
import Derived.Tactics
import Derived.Laws.Slices
import Derived.WalkKit
import Derived.KernelRfl
import Derived.RowKit3
import Derived.Deep.LoopGhost
import Derived.Deep.QuietTactic
import Derived.BigQuiet
import Derived.Deep.DeepCutAuto
import Derived.Deep.CutBlock
import Derived.Deep.RegionHeld3
import Derived.Laws.Rows
import Derived.Laws.BitsLemmas
import Derived.RowKit
import Derived.Lib.Hide
import Derived.WalkLawsBesides
import Derived.WalkSpells
import Derived.Deep.DeepFit
import Derived.Test.YtmoemalkojckaaaJ0
namespace Go.Proofs.Ytmoemalkojckaaa.J
open Go.RowKit

/-- The pairs of entries that a member may have, the first m of the 32 looked at. -/
def pairOk (liar : Bool) (p : Nat × Nat) : Bool := liar || (!JM.two p.1 && !JM.two p.2)
def prs (liar : Bool) (m : Nat) : List (Nat × Nat) := ((List.range m).map fun j => (j / 8, j % 8)).filter (pairOk liar)
def flatP (l : List (Nat × Nat)) : List Value := l.flatMap fun p => [.int .i64 (p.1 : Int), .int .i64 (p.2 : Int)]
theorem flatP_append (a b : List (Nat × Nat)) : flatP (a ++ b) = flatP a ++ flatP b := List.flatMap_append
theorem flatP_length (l : List (Nat × Nat)) : (flatP l).length = l.length * 2 := by
  induction l with
  | nil => rfl
  | cons a l ih => show ([_, _] ++ flatP l).length = _; rw [List.length_append, ih]; simp; omega
theorem prs_succ (liar : Bool) (m : Nat) : prs liar (m + 1) = prs liar m ++ if pairOk liar (m / 8, m % 8) = true then [(m / 8, m % 8)] else [] := by
  unfold prs
  rw [List.range_succ, List.map_append, List.filter_append]
  congr 1
  simp only [List.map_cons, List.map_nil, List.filter_cons, List.filter_nil]
theorem prs_zero (liar : Bool) : prs liar 0 = [] := rfl
theorem prs_len (liar : Bool) (m : Nat) : (prs liar m).length ≤ m := by
  unfold prs
  exact Nat.le_trans (List.length_filter_le _ _) (by simp)
theorem popc_two (x : Nat) (h : x ≤ 7) : JM.two x = decide (2 ≤ popc x) := JM.le7 (fun x => JM.two x = decide (2 ≤ popc x)) (by decide +kernel) x h

theorem info85 : (Try.prog.info? 85).map (fun i => (i.zero, i.size, i.bytes)) = some (some (.agg #[.int .i64 0, .int .i64 0]), 2, 16) := by kernel_rfl

/-- The state of the loops of 'pairs': the list so far. -/
structure PR (W wr : World) (liar : Bool) (m : Nat) (v : Value) : Prop where
  own : wr.ownsRow W.heap.size 85 2 v (prs liar m).length (flatP (prs liar m))
  below : Below W.heap.size W wr

theorem PR.keep {W wr : World} {liar : Bool} {m : Nat} {v : Value} (h : PR W wr liar m v) (hn : pairOk liar (m / 8, m % 8) = false) : PR W wr liar (m + 1) v := by
  have e : prs liar (m + 1) = prs liar m := by rw [prs_succ, hn]; simp
  exact ⟨by rw [e]; exact h.own, h.below⟩

theorem PR.add {W wr w1 : World} {liar : Bool} {m : Nat} {v v' : Value} (h : PR W wr liar m v) (hn : pairOk liar (m / 8, m % 8) = true) {o : Obj}
    (ho : w1.ownsRow W.heap.size 85 2 v' ((prs liar m).length + 1) (flatP (prs liar m) ++ [.int .i64 ((m / 8 : Nat) : Int), .int .i64 ((m % 8 : Nat) : Int)])) (hg : (wr.alloc o).grownBy w1 v.ownBlock) : PR W w1 liar (m + 1) v' := by
  have e : prs liar (m + 1) = prs liar m ++ [(m / 8, m % 8)] := by rw [prs_succ, hn]; simp
  refine ⟨?_, (h.below.alloc h.below.size o).grown hg (by have := h.below.size; simp; omega) (fun k hk => (h.own.lt k hk).1)⟩
  rw [e, flatP_append, List.length_append]
  exact ho

theorem cells_two (w : World) (a b : Value) (t : TypeId) : ∀ (j : Nat) (u : Value), [a, b][j]? = some u → (w.alloc (.cells #[a, b] t)).cell? ((⟨w.heap.size, 0, none⟩ : Addr).add j) = some u := by
  intro j u h
  match j, h with
  | 0, h => simp at h; subst h; exact World.cell?_alloc_at _ _ _ _ rfl
  | 1, h => simp at h; subst h; exact World.cell?_alloc_at _ _ _ _ rfl

theorem dm8 (k j : Nat) (h : j < 8) : (8 * k + j) / 8 = k ∧ (8 * k + j) % 8 = j := by omega

theorem PR.add8 {W wr w1 : World} {liar : Bool} {k j : Nat} {v v' : Value} {o : Obj} (h : PR W wr liar (8 * k + j) v) (hj : j < 8) (hn : pairOk liar (k, j) = true)
    (ho : w1.ownsRow W.heap.size 85 2 v' ((prs liar (8 * k + j)).length + 1) (flatP (prs liar (8 * k + j)) ++ [.int .i64 (k : Int), .int .i64 (j : Int)])) (hg : (wr.alloc o).grownBy w1 v.ownBlock) : PR W w1 liar (8 * k + (j + 1)) v' := by
  obtain ⟨e1, e2⟩ := dm8 k j hj
  have h2 := h.add (v' := v') (w1 := w1) (by rw [e1, e2]; exact hn) (o := o) (by rw [e1, e2]; exact ho) hg
  exact h2
theorem PR.keep8 {W wr : World} {liar : Bool} {k j : Nat} {v : Value} (h : PR W wr liar (8 * k + j) v) (hj : j < 8) (hn : pairOk liar (k, j) = false) : PR W wr liar (8 * k + (j + 1)) v := by
  obtain ⟨e1, e2⟩ := dm8 k j hj
  exact h.keep (by rw [e1, e2]; exact hn)

set_option maxHeartbeats 1600000 in
set_option maxRecDepth 100000 in
theorem pairs_liar (w : World) : Calls Try.prog 36 #[.bool true] w fun e w' => ∃ v, e = .returned v ∧ PR w w' true 32 v := by
  obtain ⟨i0, hi, hz0, hz1, hz2⟩ := info_parts info85
  go_enter Try.func36, Try.ntmps36
  go_wp2_with fail
  go_loopw [3, 6] (fun v i wr => ∃ k : Nat, k ≤ 4 ∧ i = .int .i64 k ∧ PR w wr true (8 * k) v) (fun _ i _ => 4 - (intOf i).toNat)
  case atStart => exact ⟨0, by omega, rfl, ⟨World.ownsRow_nil _ _ _ _, Below.refl _ _⟩⟩
  case round =>
    obtain ⟨k, hk, rfl, hP⟩ := hrel
    by_cases hlt : k < 4
    · have hd4 : decide ((k : Int) < 4) = true := decide_eq_true (by omega)
      go_wp2_with fail
      go_loopw [3, 9] (fun v i wr => ∃ j : Nat, j ≤ 8 ∧ i = .int .i64 j ∧ PR w wr true (8 * k + j) v) (fun _ i _ => 8 - (intOf i).toNat)
      case atStart => exact ⟨0, by omega, rfl, hP⟩
      case round =>
        clear hP
        obtain ⟨j, hj, rfl, hP⟩ := hrel
        by_cases hlt2 : j < 8
        · have hown := hP.own
          have hb := hP.below.size
          have hl := prs_len true (8 * k + j)
          go_wp2_with (first | (at_builtin; refine wpList_append_own _ rfl _ _ 70 rfl w.heap.size 85 i0 (.agg #[.int .i64 0, .int .i64 0]) 2 16 Try.underlying70 hi hz0 hz1 hz2 rfl (by decide) _ _ _ rfl (hown.alloc _) ⟨wr.heap.size, 0, none⟩ 1 1 [.int .i64 (k : Int), .int .i64 (j : Int)] rfl rfl ?c1 ?c2 ?c3 ?c4 ?c5 ?_))
          case c1 => exact cells_two _ _ _ _
          case c2 => simp [Value.oneCell']
          case c3 => unfold maxLen; omega
          case c4 => omega
          case c5 => simp; omega
          intro v' w1 hown' hgrow _
          have hN := hP.add8 hlt2 rfl hown' hgrow
          clear hP hown hown' hgrow
          go_wp2
          go_roundw
          case rel => first | exact ⟨j + 1, by omega, by go_num, hN⟩ | ((repeat apply Exists.intro); exact ⟨⟨j + 1, by omega, by go_num, hN⟩, rfl⟩)
          case measure => simp [intOf]; omega
        · obtain rfl : j = 8 := by omega
          go_wp2
          go_roundw
          case rel => exact ⟨k + 1, by omega, by go_num, hP⟩
          case measure => simp [intOf]; omega
    · obtain rfl : k = 4 := by omega
      go_wp2
      go_ret
      exact ⟨_, rfl, hP⟩

theorem u64_small (k : Nat) (h : k < 1000) : IntKind.u64.wrap (k : Int) = (k : Int) := by unfold IntKind.wrap; simp [IntKind.bits, IntKind.signed]; omega

set_option maxHeartbeats 1600000 in
set_option maxRecDepth 100000 in
theorem pairs_honest (w : World) : Calls Try.prog 36 #[.bool false] w fun e w' => ∃ v, e = .returned v ∧ PR w w' false 32 v := by
  obtain ⟨i0, hi, hz0, hz1, hz2⟩ := info_parts info85
  go_enter Try.func36, Try.ntmps36
  go_wp2_with fail
  go_loopw [3, 6] (fun v i wr => ∃ k : Nat, k ≤ 4 ∧ i = .int .i64 k ∧ PR w wr false (8 * k) v) (fun _ i _ => 4 - (intOf i).toNat)
  case atStart => exact ⟨0, by omega, rfl, ⟨World.ownsRow_nil _ _ _ _, Below.refl _ _⟩⟩
  case round =>
    obtain ⟨k, hk, rfl, hP⟩ := hrel
    by_cases hlt : k < 4
    · have hd4 : decide ((k : Int) < 4) = true := decide_eq_true (by omega)
      have hwk : IntKind.u64.wrap (k : Int) = (k : Int) := u64_small k (by omega)
      have Hk := Lib.hid (popc_two k (by omega))
      go_wp2_with fail
      go_loopw [3, 9] (fun v i wr => ∃ j : Nat, j ≤ 8 ∧ i = .int .i64 j ∧ PR w wr false (8 * k + j) v) (fun _ i _ => 8 - (intOf i).toNat)
      case atStart => exact ⟨0, by omega, rfl, hP⟩
      case round =>
        clear hP
        obtain ⟨j, hj, rfl, hP⟩ := hrel
        by_cases hlt2 : j < 8
        · have hown := hP.own
          have hb := hP.below.size
          have hl := prs_len false (8 * k + j)
          have hwj : IntKind.u64.wrap (j : Int) = (j : Int) := u64_small j (by omega)
          have Hj := Lib.hid (popc_two j (by omega))
          by_cases h1 : popc k < 2
          · by_cases h2 : popc j < 2
            · have Hn := Lib.hid (show pairOk false (k, j) = true by simp [pairOk, Hk.out, Hj.out]; omega)
              have h1' : ((popc k : Nat) : Int) < 2 := by omega
              have h2' : ((popc j : Nat) : Int) < 2 := by omega
              go_wp2_with fail
              refine (popc_calls33 k (by omega) _).mono ?_
              rintro e w' ⟨rfl, rfl⟩
              go_wp2_with fail
              refine (popc_calls33 j (by omega) _).mono ?_
              rintro e w' ⟨rfl, rfl⟩
              go_wp2_with (first | (at_builtin; refine wpList_append_own _ rfl _ _ 70 rfl w.heap.size 85 i0 (.agg #[.int .i64 0, .int .i64 0]) 2 16 Try.underlying70 hi hz0 hz1 hz2 rfl (by decide) _ _ _ rfl (hown.alloc _) ⟨wr.heap.size, 0, none⟩ 1 1 [.int .i64 (k : Int), .int .i64 (j : Int)] rfl rfl ?c1 ?c2 ?c3 ?c4 ?c5 ?_))
              case c1 => exact cells_two _ _ _ _
              case c2 => simp [Value.oneCell']
              case c3 => unfold maxLen; omega
              case c4 => omega
              case c5 => simp; omega
              intro v' w1 hown' hgrow _
              have hN := hP.add8 hlt2 Hn.out hown' hgrow
              clear hP hown hown' hgrow
              go_wp2
              go_roundw
              case rel => first | exact ⟨j + 1, by omega, by go_num, hN⟩ | ((repeat apply Exists.intro); exact ⟨⟨j + 1, by omega, by go_num, hN⟩, rfl⟩)
              case measure => simp [intOf]; omega
            · have Hn := hP.keep8 hlt2 (show pairOk false (k, j) = false by simp [pairOk, Hk.out, Hj.out]; omega)
              have h1' : ((popc k : Nat) : Int) < 2 := by omega
              have h2' : ¬ ((popc j : Nat) : Int) < 2 := by omega
              clear hP hown
              go_wp2_with fail
              refine (popc_calls33 k (by omega) _).mono ?_
              rintro e w' ⟨rfl, rfl⟩
              go_wp2_with fail
              refine (popc_calls33 j (by omega) _).mono ?_
              rintro e w' ⟨rfl, rfl⟩
              go_wp2
              go_roundw
              case rel => first | exact ⟨j + 1, by omega, by go_num, Hn⟩ | ((repeat apply Exists.intro); exact ⟨⟨j + 1, by omega, by go_num, Hn⟩, rfl⟩)
              case measure => simp [intOf]; omega
          · have Hn := hP.keep8 hlt2 (show pairOk false (k, j) = false by simp [pairOk, Hk.out, Hj.out]; omega)
            have h1' : ¬ ((popc k : Nat) : Int) < 2 := by omega
            clear hP hown
            go_wp2_with fail
            refine (popc_calls33 k (by omega) _).mono ?_
            rintro e w' ⟨rfl, rfl⟩
            go_wp2
            go_roundw
            case rel => first | exact ⟨j + 1, by omega, by go_num, Hn⟩ | ((repeat apply Exists.intro); exact ⟨⟨j + 1, by omega, by go_num, Hn⟩, rfl⟩)
            case measure => simp [intOf]; omega
        · obtain rfl : j = 8 := by omega
          go_wp2
          go_roundw
          case rel => exact ⟨k + 1, by omega, by go_num, hP⟩
          case measure => simp [intOf]; omega
    · obtain rfl : k = 4 := by omega
      go_wp2
      go_ret
      exact ⟨_, rfl, hP⟩

theorem pairs_calls (liar : Bool) (w : World) : Calls Try.prog 36 #[.bool liar] w fun e w' => ∃ v, e = .returned v ∧ PR w w' liar 32 v := by
  cases liar
  · exact pairs_honest w
  · exact pairs_liar w

end Go.Proofs.Ytmoemalkojckaaa.J
