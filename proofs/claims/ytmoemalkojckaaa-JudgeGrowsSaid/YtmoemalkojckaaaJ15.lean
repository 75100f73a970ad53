import Derived.Test.YtmoemalkojckaaaProg
import Derived.Below
import Derived.Deep.Draws
import Derived.Deep.AppendLies
import Derived.OwnWalk
import Derived.Laws.MakeOwn
import Derived.Laws.OwnMore
import Derived.Deep.OwnRows
import Derived.Tactics
import Derived.Laws.Slices
import Derived.WalkKit
import Derived.KernelRfl
import Derived.RowKit3
import Derived.Deep.LoopGhost
import Derived.Deep.QuietTactic
import Derived.BigQuiet
import Derived.Deep.DeepCutAuto
import Derived.Deep.CutBlock
import Derived.Deep.RegionHeld3
import Derived.Laws.Rows
import Derived.Laws.BitsLemmas
import Derived.RowKit
import Derived.Lib.Hide
import Derived.WalkLawsBesides
import Derived.WalkSpells
import Derived.Deep.DeepFit
import Derived.Test.YtmoemalkojckaaaJ14
namespace Go.Proofs.Ytmoemalkojckaaa.J
open Go.RowKit
set_option linter.unusedVariables false
set_option linter.unusedSimpArgs false

/-! ### all tables of a size -/
def chs (n R L : Nat) : List (List (Nat × Nat)) := (List.range (n * R)).map fun d => prs (decide (d % n < L)) 32
theorem chs_length (n R L : Nat) : (chs n R L).length = n * R := by simp [chs]
theorem chs_get (n R L d : Nat) (h : d < n * R) : (chs n R L).getD d [] = prs (decide (d % n < L)) 32 := by simp [chs, List.getD, h]
theorem prs32 (b : Bool) : (prs b 32).length = if b then 32 else 12 := by cases b <;> decide +kernel
def prodK (n R L k : Nat) : Nat := ((List.range k).map fun d => (prs (decide (d % n < L)) 32).length).foldl (· * ·) 1
theorem prodK_succ (n R L k : Nat) : prodK n R L (k + 1) = prodK n R L k * (prs (decide (k % n < L)) 32).length := by
  simp [prodK, List.range_succ]
theorem prodK_pos (n R L k : Nat) : 1 ≤ prodK n R L k := by
  induction k with
  | zero => simp [prodK]
  | succ k ih =>
    rw [prodK_succ, prs32]
    split <;> omega
theorem prodK_mono (n R L i k : Nat) (h : i ≤ k) : prodK n R L i ≤ prodK n R L k := by
  induction k with
  | zero => have : i = 0 := by omega
            subst this; exact Nat.le_refl _
  | succ k ih =>
    by_cases e : i = k + 1
    · subst e; exact Nat.le_refl _
    · have := ih (by omega)
      rw [prodK_succ, prs32]
      split <;> omega

theorem prs_mem (b : Bool) (p : Nat × Nat) (h : p ∈ prs b 32) : p.1 ≤ 3 ∧ p.2 ≤ 7 := by
  unfold prs at h
  have h2 := (List.mem_filter.1 h).1
  obtain ⟨j, hj, rfl⟩ := List.mem_map.1 h2
  have := List.mem_range.1 hj
  simp only
  omega

/-! the odometer's states -/
def digs (ls : List Nat) : Nat → List Nat
  | 0 => List.replicate ls.length 0
  | k + 1 => adv ls (digs ls k)
theorem adv_length : ∀ (ls ds : List Nat), ls.length = ds.length → (adv ls ds).length = ds.length := by
  intro ls
  induction ls with
  | nil => intro ds h; cases ds with
    | nil => rfl
    | cons _ _ => simp at h
  | cons l ls ih =>
    intro ds h
    cases ds with
    | nil => simp at h
    | cons d ds =>
      rw [adv]
      split
      · simp
      · simp [ih ds (by simpa using h)]
theorem digs_length (ls : List Nat) (k : Nat) : (digs ls k).length = ls.length := by
  induction k with
  | zero => simp [digs]
  | succ k ih => rw [digs, adv_length _ _ ih.symm, ih]
theorem adv_in : ∀ (ls ds : List Nat), ls.length = ds.length → (∀ i, i < ls.length → 1 ≤ ls.getD i 0) → (∀ i, i < ls.length → ds.getD i 0 < ls.getD i 0) → ∀ i, i < ls.length → (adv ls ds).getD i 0 < ls.getD i 0 := by
  intro ls
  induction ls with
  | nil => intro ds h _ _ i hi; simp at hi
  | cons l ls ih =>
    intro ds h h1 h2 i hi
    cases ds with
    | nil => simp at h
    | cons d ds =>
      have hl := h1 0 (by simp)
      simp at hl
      rw [adv]
      split
      · rename_i hd
        cases i with
        | zero => simpa using hd
        | succ i => have := h2 (i + 1) hi; simpa using this
      · cases i with
        | zero => simp; omega
        | succ i =>
          have := ih ds (by simpa using h) (fun j hj => by have := h1 (j + 1) (by simpa using hj); simpa using this) (fun j hj => by have := h2 (j + 1) (by simpa using hj); simpa using this) i (by simpa using hi)
          simpa using this
theorem digs_in (ls : List Nat) (h1 : ∀ i, i < ls.length → 1 ≤ ls.getD i 0) (k : Nat) : ∀ i, i < ls.length → (digs ls k).getD i 0 < ls.getD i 0 := by
  induction k with
  | zero =>
    intro i hi
    have := h1 i hi
    simp [digs, List.getD, hi]
    simp [List.getD, hi] at this
    omega
  | succ k ih => exact adv_in ls _ (digs_length ls k).symm h1 ih

/-- The entries that the digits stand for. -/
def pickP (cs : List (List (Nat × Nat))) (ds : List Nat) (d : Nat) : Nat × Nat := (cs.getD d []).getD (ds.getD d 0) (0, 0)
def preOf (n N : Nat) (cs : List (List (Nat × Nat))) (ds : List Nat) : List (List Nat) := rowsK (fun d => (pickP cs ds d).1) n N
def comOf (n N : Nat) (cs : List (List (Nat × Nat))) (ds : List Nat) : List (List Nat) := rowsK (fun d => (pickP cs ds d).2) n N
theorem rowsK_full_length (f : Nat → Nat) (n R : Nat) (hn : 1 ≤ n) : (rowsK f n (n * R)).length = R := by
  unfold rowsK
  rw [List.length_map, List.length_range, div_up n (n * R) hn, Nat.mul_mod_right, if_pos rfl, Nat.mul_div_cancel_left _ (by omega)]
theorem rowsK_mem (f : Nat → Nat) (n N hi : Nat) (h : ∀ d, f d ≤ hi) : ∀ l ∈ rowsK f n N, JM.rowOk n hi l := by
  intro l hl
  unfold rowsK at hl
  obtain ⟨r, _, rfl⟩ := List.mem_map.1 hl
  refine ⟨by simp, fun x hx => ?_⟩
  obtain ⟨m, _, rfl⟩ := List.mem_map.1 hx
  split
  · exact h _
  · omega

theorem pickP_le (n R L : Nat) (ds : List Nat) (d : Nat) : (pickP (chs n R L) ds d).1 ≤ 3 ∧ (pickP (chs n R L) ds d).2 ≤ 7 := by
  unfold pickP
  by_cases h : d < n * R
  · rw [chs_get n R L d h]
    by_cases h2 : ds.getD d 0 < (prs (decide (d % n < L)) 32).length
    · have : (prs (decide (d % n < L)) 32).getD (ds.getD d 0) (0, 0) = (prs (decide (d % n < L)) 32)[ds.getD d 0] := by rw [List.getD, List.getElem?_eq_getElem h2]; rfl
      rw [this]
      exact prs_mem _ _ (List.getElem_mem _)
    · have : (prs (decide (d % n < L)) 32).getD (ds.getD d 0) (0, 0) = (0, 0) := by
        rw [List.getD, List.getElem?_eq_none (by omega)]; rfl
      rw [this]; simp
  · have : (chs n R L).getD d [] = [] := by rw [List.getD, List.getElem?_eq_none (by rw [chs_length]; omega)]; rfl
    rw [this]; simp

theorem valid_of (n R L : Nat) (ds : List Nat) (hn : 1 ≤ n) (hn7 : n ≤ 7) (hR : 1 ≤ R) (hR3 : R ≤ 3) : JM.Valid n (preOf n (n * R) (chs n R L) ds) (comOf n (n * R) (chs n R L) ds) where
  len := by unfold preOf comOf; rw [rowsK_full_length _ _ _ hn, rowsK_full_length _ _ _ hn]
  pos := by unfold preOf; rw [rowsK_full_length _ _ _ hn]; exact hR
  le := by unfold preOf; rw [rowsK_full_length _ _ _ hn]; exact hR3
  n1 := hn
  n7 := hn7
  p := rowsK_mem _ _ _ _ (fun d => (pickP_le n R L ds d).1)
  c := rowsK_mem _ _ _ _ (fun d => (pickP_le n R L ds d).2)

theorem fitRow_of (n hi : Nat) (l : List Nat) (h : JM.rowOk n hi l) : fitRow n (hi : Int) (ints l) = true := by
  unfold fitRow
  rw [ints_length, h.1]
  simp only [decide_true, Bool.true_and, List.all_eq_true]
  intro x hx
  obtain ⟨y, hy, rfl⟩ := List.mem_map.1 hx
  have := h.2 y hy
  simp only [Bool.and_eq_true, decide_eq_true_eq]
  omega
theorem validB_of {n : Nat} {pre com : List (List Nat)} (h : JM.Valid n pre com) : validB (itab pre) (itab com) = true := by
  have h0 : (pre.getD 0 []).length = n := by
    have hp : 0 < pre.length := h.pos
    have e : pre.getD 0 [] = pre[0] := by simp [List.getD, hp]
    rw [e]; exact (h.p _ (List.getElem_mem _)).1
  have f1 : fitsB (itab pre) n 3 = true := by
    unfold fitsB itab
    rw [List.all_eq_true]
    intro l hl
    obtain ⟨l', hl', rfl⟩ := List.mem_map.1 hl
    exact fitRow_of n 3 l' (h.p l' hl')
  have f2 : fitsB (itab com) n 7 = true := by
    unfold fitsB itab
    rw [List.all_eq_true]
    intro l hl
    obtain ⟨l', hl', rfl⟩ := List.mem_map.1 hl
    exact fitRow_of n 7 l' (h.c l' hl')
  unfold validB
  rw [itab_getD, ints_length, h0, f1, f2, itab_length, itab_length]
  have := h.pos; have := h.le; have := h.len; have := h.n1; have := h.n7
  simp only [Bool.and_true, Bool.and_eq_true, decide_eq_true_eq]
  omega

/-! forks and the least conviction, table by table -/
def forkB (n : Nat) (pre com : List (List Nat)) : Bool := (JM.decT n pre com).1 && (JM.decT n pre com).2
def lstep (l : Int) (c : Nat) : Int := if l < 0 ∨ (c : Int) < l then (c : Int) else l
/-- (forks, least) over the tables so far. -/
def seek (n N : Nat) (cs : List (List (Nat × Nat))) (ls : List Nat) : Nat → Nat × Int
  | 0 => (0, -1)
  | k + 1 =>
    let s := seek n N cs ls k
    let p := preOf n N cs (digs ls k)
    let c := comOf n N cs (digs ls k)
    if forkB n p c then (s.1 + 1, lstep s.2 (JM.nconf n p c)) else s
theorem seek_le (n N : Nat) (cs : List (List (Nat × Nat))) (ls : List Nat) (k : Nat) : (seek n N cs ls k).1 ≤ k ∧ -1 ≤ (seek n N cs ls k).2 ∧ (seek n N cs ls k).2 ≤ n := by
  induction k with
  | zero => simp [seek]
  | succ k ih =>
    have hc : JM.nconf n (preOf n N cs (digs ls k)) (comOf n N cs (digs ls k)) ≤ n := by
      unfold JM.nconf
      exact Nat.le_trans List.countP_le_length (by simp)
    simp only [seek]
    split
    · refine ⟨by simp; omega, ?_, ?_⟩
      · simp only [lstep]; split <;> omega
      · simp only [lstep]; split <;> omega
    · omega

theorem nconf_mask {n : Nat} {pre com : List (List Nat)} (h : JM.Valid n pre com) : popc (maskOf 7 (JM.conf pre com)) = JM.nconf n pre com := by
  rw [popc_mask]
  unfold JM.nconf
  have e : List.range 7 = List.range n ++ (List.range (7 - n)).map (n + ·) := by
    rw [← List.range_add]
    congr 1
    have := h.n7; omega
  rw [e, List.countP_append]
  have h0 : ((List.range (7 - n)).map (n + ·)).countP (JM.conf pre com) = 0 := by
    rw [List.countP_eq_zero]
    intro m hm
    obtain ⟨i, hi, rfl⟩ := List.mem_map.1 hm
    unfold JM.conf
    rw [Bool.not_eq_true, Bool.or_eq_false_iff]
    constructor
    · rw [List.any_eq_false]
      intro l hl
      rw [getD_out (by rw [(h.p l hl).1]; omega)]
      decide
    · rw [List.any_eq_false]
      intro l hl
      rw [getD_out (by rw [(h.c l hl).1]; omega)]
      decide
  omega

end Go.Proofs.Ytmoemalkojckaaa.J
