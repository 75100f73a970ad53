import Derived.Test.YtmoemalkojckaaaProg
import Derived.Below
import Derived.Deep.Draws
import Derived.Deep.AppendLies
import Derived.OwnWalk
import Derived.Laws.MakeOwn
import Derived.Laws.OwnMore
import Derived.Deep.OwnRows
import Derived.Tactics
import Derived.Laws.Slices
import Derived.WalkKit
import Derived.KernelRfl
import Derived.RowKit3
import Derived.Deep.LoopGhost
import Derived.Deep.QuietTactic
import Derived.BigQuiet
import Derived.Deep.DeepCutAuto
import Derived.Deep.CutBlock
import Derived.Deep.RegionHeld3
import Derived.Laws.Rows
import Derived.Laws.BitsLemmas
import Derived.RowKit
import Derived.Lib.Hide
import Derived.WalkLawsBesides
import Derived.WalkSpells
import Derived.Deep.DeepFit
import Derived.Laws.ShiftsVar
import Derived.Laws.ShiftsVarLaws
import Derived.Test.YtmoemalkojckaaaJ5
import Derived.Test.YtmoemalkojckaaaJ14
import Derived.Test.YtmoemalkojckaaaJ6
namespace Go.Proofs.Ytmoemalkojckaaa.J
open Go.RowKit
set_option linter.unusedVariables false
set_option linter.unusedSimpArgs false

theorem and1_all : ∀ y : Fin 1024, (Go.bits .and .i64 (y.val : Int) 1 == 1) = decide (y.val % 2 = 1) := by decide +kernel
theorem bit_at (x i : Nat) (hx : x < 1024) : (Go.bits .and .i64 ((x : Int) / 2 ^ i) 1 == 1) = x.testBit i := by
  have e : ((x : Int) / 2 ^ i) = ((x / 2 ^ i : Nat) : Int) := by simp
  rw [e, and1_all ⟨x / 2 ^ i, Nat.lt_of_le_of_lt (Nat.div_le_self _ _) hx⟩, Nat.testBit_eq_decide_div_mod_eq]
theorem rhas_calls (x i : Nat) (hx : x < 1024) (hi : i < 10) (w : World) : Calls Try.prog 56 #[.int .i64 (x : Int), .int .i64 (i : Int)] w fun e w' => e = .returned (.bool (x.testBit i)) ∧ w = w' := by
  have H := Lib.hid (bit_at x i hx)
  go_enter Try.func56, Try.ntmps56
  go_wp2
  go_ret
  exact ⟨ret_bool H.out, rfl⟩

def idsK (x k : Nat) : List Nat := (List.range k).filter fun i => x.testBit i
theorem idsK_succ (x k : Nat) : idsK x (k + 1) = idsK x k ++ if x.testBit k then [k] else [] := by
  unfold idsK
  rw [List.range_succ, List.filter_append]
  cases h : x.testBit k <;> simp [h]
theorem idsK_len (x k : Nat) : (idsK x k).length ≤ k := by
  unfold idsK
  exact Nat.le_trans (List.length_filter_le _ _) (by simp)
theorem idsK_popc (x : Nat) : (idsK x 10).length = popc x := by
  unfold idsK popc
  rw [List.countP_eq_length_filter]

theorem cells_one (w : World) (a : Value) (t : TypeId) : ∀ (j : Nat) (u : Value), [a][j]? = some u → (w.alloc (.cells #[a] t)).cell? ((⟨w.heap.size, 0, none⟩ : Addr).add j) = some u := by
  intro j u h
  match j, h with
  | 0, h => simp at h; subst h; exact World.cell?_alloc_at _ _ _ _ rfl

structure IR (W wr : World) (l : List Nat) (v : Value) : Prop where
  own : wr.ownsRow W.heap.size 3 1 v l.length (nums l)
  below : Below W.heap.size W wr
theorem IR.add {W wr w1 : World} {l : List Nat} {k : Nat} {v v' : Value} (h : IR W wr l v) {o : Obj}
    (ho : w1.ownsRow W.heap.size 3 1 v' (l.length + 1) (nums l ++ [.int .i64 (k : Int)])) (hg : (wr.alloc o).grownBy w1 v.ownBlock) : IR W w1 (l ++ [k]) v' := by
  refine ⟨?_, (h.below.alloc h.below.size o).grown hg (by have := h.below.size; simp; omega) (fun k hk => (h.own.lt k hk).1)⟩
  have e : nums (l ++ [k]) = nums l ++ [.int .i64 (k : Int)] := by simp [nums]
  rw [e, List.length_append]
  exact ho

def IdsEnd (x : Nat) (w : World) (e : Ending) (w' : World) : Prop := ∃ A c, e = .returned (.slice A (popc x) c) ∧ Below w.heap.size w w'

set_option maxHeartbeats 1600000 in
set_option maxRecDepth 100000 in
theorem rids_calls (x : Nat) (hx : x < 1024) (w : World) : Calls Try.prog 47 #[.int .i64 (x : Int)] w (IdsEnd x w) := by
  obtain ⟨i0, hi, hz0, hz1, hz2⟩ := info_parts info3
  go_enter Try.func47, Try.ntmps47
  go_wp2_with fail
  go_loopw [3, 4] (fun v i wr => ∃ k : Nat, k ≤ 10 ∧ i = .int .i64 k ∧ IR w wr (idsK x k) v) (fun _ i _ => 10 - (intOf i).toNat)
  case atStart => exact ⟨0, by omega, rfl, ⟨World.ownsRow_nil _ _ _ _, Below.refl _ _⟩⟩
  case round =>
    obtain ⟨k, hk, rfl, hP⟩ := hrel
    by_cases hlt : k < 10
    · have hd : decide ((k : Int) < 10) = true := decide_eq_true (by omega)
      have CH := Lib.hid (fun wx => rhas_calls x k hx hlt wx)
      have hs := idsK_succ x k
      cases hb : x.testBit k with
      | true =>
        rw [hb] at hs CH
        have HS := Lib.hid hs
        have hown := hP.own
        have hbs := hP.below.size
        have hl := idsK_len x k
        clear hs hb
        go_wp2_with fail
        refine (CH.out _).mono ?_
        rintro e w' ⟨rfl, rfl⟩
        go_wp2_with (first | (at_builtin; refine wpList_append_own _ rfl _ _ 45 rfl w.heap.size 3 i0 (.int .i64 0) 1 8 Try.underlying45 hi hz0 hz1 hz2 rfl (by decide) _ _ _ rfl (hown.alloc _) ⟨wr.heap.size, 0, none⟩ 1 1 [.int .i64 (k : Int)] rfl rfl ?c1 ?c2 ?c3 ?c4 ?c5 ?_))
        case c1 => exact cells_one _ _ _
        case c2 => simp [Value.oneCell']
        case c3 => unfold maxLen; omega
        case c4 => omega
        case c5 => simp; omega
        intro v' w1 hown' hgrow _
        have hN := hP.add hown' hgrow
        have HN := Lib.hid hN
        clear hP hown hown' hgrow hN
        go_wp2
        go_roundw
        case rel => exact ⟨k + 1, by omega, by go_num, by rw [HS.out]; exact HN.out⟩
        case measure => simp [intOf]; omega
      | false =>
        rw [hb] at hs CH
        have HS := Lib.hid hs
        have HP := Lib.hid hP
        clear hs hb hP
        go_wp2_with fail
        refine (CH.out _).mono ?_
        rintro e w' ⟨rfl, rfl⟩
        go_wp2
        go_roundw
        case rel => exact ⟨k + 1, by omega, by go_num, by rw [HS.out]; simpa using HP.out⟩
        case measure => simp [intOf]; omega
    · obtain rfl : k = 10 := by omega
      obtain ⟨A, c, rfl⟩ := own_slice hP.own
      have HB := Lib.hid hP.below
      have HI := Lib.hid (idsK_popc x)
      clear hP
      go_wp2
      go_ret
      show ∃ A c, _ ∧ _
      exact ⟨A, c, by rw [← HI.out]; rfl, HB.out⟩

theorem rsize_calls (x : Nat) (hx : x < 1024) (w : World) : Calls Try.prog 39 #[.int .i64 (x : Int)] w fun e w' => e = .returned (.int .i64 (popc x : Int)) ∧ Below w.heap.size w w' := by
  have H := Lib.hid (fun wx => rids_calls x hx wx)
  go_enter Try.func39, Try.ntmps39
  go_wp2_with fail
  refine (H.out _).mono ?_
  rintro e w' ⟨A, c, rfl, hb⟩
  have HB := Lib.hid hb
  clear hb
  go_wp2
  go_ret
  exact ⟨rfl, HB.out⟩

end Go.Proofs.Ytmoemalkojckaaa.J
