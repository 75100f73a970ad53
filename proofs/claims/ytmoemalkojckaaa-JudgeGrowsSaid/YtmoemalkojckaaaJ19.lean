import Derived.Test.YtmoemalkojckaaaProg
import Derived.Below
import Derived.Deep.Draws
import Derived.Deep.AppendLies
import Derived.OwnWalk
import Derived.Laws.MakeOwn
import Derived.Laws.OwnMore
import Derived.Deep.OwnRows
import Derived.Tactics
import Derived.Laws.Slices
import Derived.WalkKit
import Derived.KernelRfl
import Derived.RowKit3
import Derived.Deep.LoopGhost
import Derived.Deep.QuietTactic
import Derived.BigQuiet
import Derived.Deep.DeepCutAuto
import Derived.Deep.CutBlock
import Derived.Deep.RegionHeld3
import Derived.Laws.Rows
import Derived.Laws.BitsLemmas
import Derived.RowKit
import Derived.Lib.Hide
import Derived.WalkLawsBesides
import Derived.WalkSpells
import Derived.Deep.DeepFit
import Derived.Test.YtmoemalkojckaaaJ15
namespace Go.Proofs.Ytmoemalkojckaaa.J
open Go.RowKit
set_option linter.unusedVariables false
set_option linter.unusedSimpArgs false

/-! ### the odometer meets every table -/
def mr : List Nat → Nat → List Nat
  | [], _ => []
  | l :: ls, k => (k % l) :: mr ls (k / l)
theorem mr_length (ls : List Nat) : ∀ k, (mr ls k).length = ls.length := by
  induction ls with
  | nil => intro k; rfl
  | cons l ls ih => intro k; simp [mr, ih]
theorem adv_mr (ls : List Nat) : (∀ l ∈ ls, 1 ≤ l) → ∀ k, adv ls (mr ls k) = mr ls (k + 1) := by
  induction ls with
  | nil => intro _ k; rfl
  | cons l ls ih =>
    intro h k
    have hl := h l (by simp)
    have hdm := Nat.div_add_mod k l
    have hlt := Nat.mod_lt k (show 0 < l by omega)
    rw [mr, adv]
    split
    · rename_i hd
      have e1 : (k + 1) % l = k % l + 1 := by
        rw [← hdm, Nat.add_assoc, Nat.mul_add_mod]; rw [hdm]; exact Nat.mod_eq_of_lt hd
      have e2 : (k + 1) / l = k / l := by
        have : k + 1 = l * (k / l) + (k % l + 1) := by omega
        rw [this, Nat.mul_add_div (by omega), Nat.div_eq_of_lt hd, Nat.add_zero]
      rw [mr, e1, e2]
    · rename_i hd
      have e0 : k % l + 1 = l := by omega
      have hk : k + 1 = l * (k / l + 1) := by rw [Nat.mul_add]; omega
      have e1 : (k + 1) % l = 0 := by rw [hk]; exact Nat.mul_mod_right _ _
      have e2 : (k + 1) / l = k / l + 1 := by rw [hk]; exact Nat.mul_div_cancel_left _ (by omega)
      rw [ih (fun x hx => h x (by simp [hx])), mr, e1, e2]
theorem mr_zero (ls : List Nat) : mr ls 0 = List.replicate ls.length 0 := by
  induction ls with
  | nil => rfl
  | cons l ls ih => simp [mr, ih, List.replicate_succ]
theorem digs_mr (ls : List Nat) (h : ∀ l ∈ ls, 1 ≤ l) (k : Nat) : digs ls k = mr ls k := by
  induction k with
  | zero => rw [mr_zero]; rfl
  | succ k ih => rw [digs, ih, adv_mr ls h]
def valD : List Nat → List Nat → Nat
  | l :: ls, d :: ds => d + l * valD ls ds
  | _, _ => 0
def prodL : List Nat → Nat
  | [] => 1
  | l :: ls => l * prodL ls
inductive InD : List Nat → List Nat → Prop
  | nil : InD [] []
  | cons {l d : Nat} {ls ds : List Nat} : d < l → InD ls ds → InD (l :: ls) (d :: ds)
theorem mr_val {ls ds : List Nat} (h : InD ls ds) : mr ls (valD ls ds) = ds ∧ valD ls ds < prodL ls := by
  induction h with
  | nil => exact ⟨rfl, by simp [valD, prodL]⟩
  | cons hd h ih =>
    rename_i l d ls ds
    obtain ⟨h1, h2⟩ := ih
    have e1 : (d + l * valD ls ds) % l = d := by rw [Nat.add_mul_mod_self_left]; exact Nat.mod_eq_of_lt hd
    have e2 : (d + l * valD ls ds) / l = valD ls ds := by rw [Nat.add_mul_div_left _ _ (by omega), Nat.div_eq_of_lt hd, Nat.zero_add]
    refine ⟨by rw [valD, mr, e1, e2, h1], ?_⟩
    rw [valD, prodL]
    have : valD ls ds + 1 ≤ prodL ls := h2
    have h3 := Nat.mul_le_mul_left l this
    rw [Nat.mul_add] at h3
    omega
theorem foldl_mul (l : List Nat) : ∀ a, l.foldl (· * ·) a = a * prodL l := by
  induction l with
  | nil => intro a; simp [prodL]
  | cons x l ih => intro a; rw [List.foldl_cons, ih, prodL, Nat.mul_assoc]
theorem prodK_lens (n R L : Nat) : prodK n R L (n * R) = prodL (lens (chs n R L)) := by
  unfold prodK
  rw [foldl_mul, Nat.one_mul]
  congr 1
  unfold lens chs
  rw [List.map_map]; rfl
theorem prs_pos' (b : Bool) : 1 ≤ (prs b 32).length := by rw [prs32]; split <;> omega
theorem lens_pos (n R L : Nat) : ∀ l ∈ lens (chs n R L), 1 ≤ l := by
  intro l hl
  unfold lens chs at hl
  rw [List.map_map] at hl
  obtain ⟨d, _, rfl⟩ := List.mem_map.1 hl
  exact prs_pos' _

/-! ### what the search comes to -/
section
variable (n N : Nat) (cs : List (List (Nat × Nat))) (ls : List Nat)
def forkAt (j : Nat) : Bool := forkB n (preOf n N cs (digs ls j)) (comOf n N cs (digs ls j))
def confAt (j : Nat) : Nat := JM.nconf n (preOf n N cs (digs ls j)) (comOf n N cs (digs ls j))
theorem seek_succ (k : Nat) : seek n N cs ls (k + 1) = if forkAt n N cs ls k then ((seek n N cs ls k).1 + 1, lstep (seek n N cs ls k).2 (confAt n N cs ls k)) else seek n N cs ls k := rfl
theorem seek_spec (k : Nat) : ((∀ j, j < k → forkAt n N cs ls j = false) ∧ seek n N cs ls k = (0, -1)) ∨
    (0 < (seek n N cs ls k).1 ∧ (∃ j, j < k ∧ forkAt n N cs ls j = true ∧ (seek n N cs ls k).2 = (confAt n N cs ls j : Int)) ∧ ∀ j, j < k → forkAt n N cs ls j = true → (seek n N cs ls k).2 ≤ (confAt n N cs ls j : Int)) := by
  induction k with
  | zero => left; exact ⟨fun j hj => by omega, rfl⟩
  | succ k ih =>
    rw [seek_succ]
    cases hf : forkAt n N cs ls k with
    | false =>
      simp only [Bool.false_eq_true, if_false]
      rcases ih with ⟨h1, h2⟩ | ⟨h1, ⟨j, hj, hj2, hj3⟩, h3⟩
      · left
        refine ⟨fun j hj => ?_, h2⟩
        by_cases e : j = k
        · subst e; exact hf
        · exact h1 j (by omega)
      · right
        refine ⟨h1, ⟨j, by omega, hj2, hj3⟩, fun i hi hi2 => ?_⟩
        by_cases e : i = k
        · subst e; rw [hf] at hi2; cases hi2
        · exact h3 i (by omega) hi2
    | true =>
      simp only [if_true]
      right
      refine ⟨by simp, ?_, ?_⟩
      · simp only [lstep]
        split
        · exact ⟨k, by omega, hf, rfl⟩
        · rename_i hn
          rcases ih with ⟨h1, h2⟩ | ⟨h1, ⟨j, hj, hj2, hj3⟩, h3⟩
          · rw [h2] at hn; simp at hn
          · exact ⟨j, by omega, hj2, hj3⟩
      · intro i hi hi2
        simp only [lstep]
        by_cases e : i = k
        · subst e; split <;> omega
        · rcases ih with ⟨h1, h2⟩ | ⟨h1, ⟨j, hj, hj2, hj3⟩, h3⟩
          · rw [h1 i (by omega)] at hi2; cases hi2
          · have := h3 i (by omega) hi2
            split <;> omega
end

theorem fork_two (n R L : Nat) (hn : 1 ≤ n) (hn7 : n ≤ 7) (hR : 1 ≤ R) (hR3 : R ≤ 3) (ls : List Nat) (j : Nat) (h : forkAt n (n * R) (chs n R L) ls j = true) : 2 * JM.quorum n ≤ n + confAt n (n * R) (chs n R L) ls j := by
  unfold forkAt forkB at h
  rw [Bool.and_eq_true] at h
  exact JM.forks n _ _ (valid_of n R L (digs ls j) hn hn7 hR hR3) h

/-- Only liars hold two choices. -/
theorem conf_le (n R L : Nat) (hn : 1 ≤ n) (hL : L ≤ n) (ds : List Nat) : JM.nconf n (preOf n (n * R) (chs n R L) ds) (comOf n (n * R) (chs n R L) ds) ≤ L := by
  have honest : ∀ r m, L ≤ m → m < n → JM.two (pickP (chs n R L) ds (r * n + m)).1 = false ∧ JM.two (pickP (chs n R L) ds (r * n + m)).2 = false := by
    intro r m h1 h2
    by_cases h : r * n + m < n * R
    · unfold pickP
      rw [chs_get n R L _ h]
      have hm : (r * n + m) % n = m := by rw [Nat.mul_add_mod_self_right, Nat.mod_eq_of_lt h2]
      rw [hm, show decide (m < L) = false from decide_eq_false (by omega)]
      by_cases h3 : ds.getD (r * n + m) 0 < (prs false 32).length
      · have e : (prs false 32).getD (ds.getD (r * n + m) 0) (0, 0) = (prs false 32)[ds.getD (r * n + m) 0] := by rw [List.getD, List.getElem?_eq_getElem h3]; rfl
        rw [e]
        have hmem : (prs false 32)[ds.getD (r * n + m) 0] ∈ prs false 32 := List.getElem_mem _
        generalize (prs false 32)[ds.getD (r * n + m) 0] = p at hmem
        unfold prs at hmem
        have hok := (List.mem_filter.1 hmem).2
        unfold pairOk at hok
        simpa using hok
      · have e : (prs false 32).getD (ds.getD (r * n + m) 0) (0, 0) = (0, 0) := by rw [List.getD, List.getElem?_eq_none (by omega)]; rfl
        rw [e]; decide
    · unfold pickP
      have : (chs n R L).getD (r * n + m) [] = [] := by rw [List.getD, List.getElem?_eq_none (by rw [chs_length]; omega)]; rfl
      have e : ([] : List (Nat × Nat)).getD (ds.getD (r * n + m) 0) (0, 0) = (0, 0) := by simp [List.getD]
      rw [this, e]; decide
  have row : ∀ (f : Nat → Nat) (m : Nat), L ≤ m → m < n → (∀ r, JM.two (f (r * n + m)) = false) → (rowsK f n (n * R)).any (fun l => JM.two (l.getD m 0)) = false := by
    intro f m h1 h2 hf
    rw [List.any_eq_false]
    intro l hl
    unfold rowsK at hl
    obtain ⟨r, _, rfl⟩ := List.mem_map.1 hl
    have e : ((List.range n).map fun m => if r * n + m < n * R then f (r * n + m) else 0).getD m 0 = if r * n + m < n * R then f (r * n + m) else 0 := by
      rw [List.getD, List.getElem?_map, List.getElem?_range h2]; rfl
    rw [e]
    split
    · rw [hf r]; simp
    · decide
  unfold JM.nconf
  have e : List.range n = List.range L ++ (List.range (n - L)).map (L + ·) := by
    rw [← List.range_add]; congr 1; omega
  rw [e, List.countP_append]
  have h0 : ((List.range (n - L)).map (L + ·)).countP (JM.conf (preOf n (n * R) (chs n R L) ds) (comOf n (n * R) (chs n R L) ds)) = 0 := by
    rw [List.countP_eq_zero]
    intro m hm
    obtain ⟨i, hi, rfl⟩ := List.mem_map.1 hm
    have hi := List.mem_range.1 hi
    unfold JM.conf
    rw [Bool.not_eq_true, Bool.or_eq_false_iff]
    exact ⟨row _ (L + i) (by omega) (by omega) (fun r => (honest r (L + i) (by omega) (by omega)).1), row _ (L + i) (by omega) (by omega) (fun r => (honest r (L + i) (by omega) (by omega)).2)⟩
  have h1 : (List.range L).countP (JM.conf (preOf n (n * R) (chs n R L) ds) (comOf n (n * R) (chs n R L) ds)) ≤ L := Nat.le_trans List.countP_le_length (by simp)
  omega

/-- A table that is a fork with just k convicted, met by the search. -/
theorem seek_meets (n R L c : Nat) (hn : 1 ≤ n) (hn7 : n ≤ 7) (hR : 1 ≤ R) (hR3 : R ≤ 3) (hc : 2 * JM.quorum n = n + c) (ds : List Nat) (hd : InD (lens (chs n R L)) ds)
    (hf : forkB n (preOf n (n * R) (chs n R L) ds) (comOf n (n * R) (chs n R L) ds) = true) (hnc : JM.nconf n (preOf n (n * R) (chs n R L) ds) (comOf n (n * R) (chs n R L) ds) = c) :
    0 < (seek n (n * R) (chs n R L) (lens (chs n R L)) (prodK n R L (n * R))).1 ∧ (seek n (n * R) (chs n R L) (lens (chs n R L)) (prodK n R L (n * R))).2 = (c : Int) := by
  obtain ⟨e1, e2⟩ := mr_val hd
  have hk : digs (lens (chs n R L)) (valD (lens (chs n R L)) ds) = ds := by rw [digs_mr _ (lens_pos n R L), e1]
  rw [← prodK_lens] at e2
  have hfa : forkAt n (n * R) (chs n R L) (lens (chs n R L)) (valD (lens (chs n R L)) ds) = true := by unfold forkAt; rw [hk]; exact hf
  have hca : confAt n (n * R) (chs n R L) (lens (chs n R L)) (valD (lens (chs n R L)) ds) = c := by unfold confAt; rw [hk]; exact hnc
  rcases seek_spec n (n * R) (chs n R L) (lens (chs n R L)) (prodK n R L (n * R)) with ⟨h1, _⟩ | ⟨h1, ⟨j, hj, hj2, hj3⟩, h3⟩
  · rw [h1 _ e2] at hfa; cases hfa
  · refine ⟨h1, ?_⟩
    have a := h3 _ e2 hfa
    rw [hca] at a
    have b := fork_two n R L hn hn7 hR hR3 _ j hj2
    omega
theorem seek_none (n R L : Nat) (hn : 1 ≤ n) (hn7 : n ≤ 7) (hR : 1 ≤ R) (hR3 : R ≤ 3) (hL : n + L < 2 * JM.quorum n) (k : Nat) :
    seek n (n * R) (chs n R L) (lens (chs n R L)) k = (0, -1) := by
  have hLn : L ≤ n := by unfold JM.quorum at hL; omega
  rcases seek_spec n (n * R) (chs n R L) (lens (chs n R L)) k with ⟨_, h⟩ | ⟨_, ⟨j, hj, hj2, hj3⟩, _⟩
  · exact h
  · have a := fork_two n R L hn hn7 hR hR3 _ j hj2
    have b : confAt n (n * R) (chs n R L) (lens (chs n R L)) j ≤ L := conf_le n R L hn hLn _
    omega

def wit (n : Nat) : List Nat := if n = 4 then [31, 31, 5, 10] else List.replicate n 31
theorem tight (n : Nat) (h1 : 1 ≤ n) (h4 : n ≤ 4) : ∃ c, 2 * JM.quorum n = n + c ∧ 1 ≤ c ∧ c ≤ n ∧ prodK n 1 c (n * 1) ≤ 1048576 ∧ prodK n 1 (c - 1) (n * 1) ≤ 1048576 ∧
    0 < (seek n (n * 1) (chs n 1 c) (lens (chs n 1 c)) (prodK n 1 c (n * 1))).1 ∧ (seek n (n * 1) (chs n 1 c) (lens (chs n 1 c)) (prodK n 1 c (n * 1))).2 = (c : Int) ∧
    seek n (n * 1) (chs n 1 (c - 1)) (lens (chs n 1 (c - 1))) (prodK n 1 (c - 1) (n * 1)) = (0, -1) := by
  have key : ∀ c, 2 * JM.quorum n = n + c → 1 ≤ c → c ≤ n → prodK n 1 c (n * 1) ≤ 1048576 → prodK n 1 (c - 1) (n * 1) ≤ 1048576 → ∀ ds, InD (lens (chs n 1 c)) ds →
      forkB n (preOf n (n * 1) (chs n 1 c) ds) (comOf n (n * 1) (chs n 1 c) ds) = true → JM.nconf n (preOf n (n * 1) (chs n 1 c) ds) (comOf n (n * 1) (chs n 1 c) ds) = c →
      ∃ c, 2 * JM.quorum n = n + c ∧ 1 ≤ c ∧ c ≤ n ∧ prodK n 1 c (n * 1) ≤ 1048576 ∧ prodK n 1 (c - 1) (n * 1) ≤ 1048576 ∧
    0 < (seek n (n * 1) (chs n 1 c) (lens (chs n 1 c)) (prodK n 1 c (n * 1))).1 ∧ (seek n (n * 1) (chs n 1 c) (lens (chs n 1 c)) (prodK n 1 c (n * 1))).2 = (c : Int) ∧
    seek n (n * 1) (chs n 1 (c - 1)) (lens (chs n 1 (c - 1))) (prodK n 1 (c - 1) (n * 1)) = (0, -1) := by
    intro c hc c1 c2 c3 c4 ds hd hf hn
    obtain ⟨a, b⟩ := seek_meets n 1 c c h1 (by omega) (by omega) (by omega) hc ds hd hf hn
    exact ⟨c, hc, c1, c2, c3, c4, a, b, seek_none n 1 (c - 1) h1 (by omega) (by omega) (by omega) (by omega) _⟩
  have : n = 1 ∨ n = 2 ∨ n = 3 ∨ n = 4 := by omega
  rcases this with rfl | rfl | rfl | rfl
  · exact key 1 (by decide) (by decide) (by decide) (by decide +kernel) (by decide +kernel) [31] (.cons (by decide +kernel) .nil) (by decide +kernel) (by decide +kernel)
  · exact key 2 (by decide) (by decide) (by decide) (by decide +kernel) (by decide +kernel) [31, 31] (.cons (by decide +kernel) (.cons (by decide +kernel) .nil)) (by decide +kernel) (by decide +kernel)
  · exact key 3 (by decide) (by decide) (by decide) (by decide +kernel) (by decide +kernel) [31, 31, 31] (.cons (by decide +kernel) (.cons (by decide +kernel) (.cons (by decide +kernel) .nil))) (by decide +kernel) (by decide +kernel)
  · exact key 2 (by decide) (by decide) (by decide) (by decide +kernel) (by decide +kernel) [31, 31, 5, 10] (.cons (by decide +kernel) (.cons (by decide +kernel) (.cons (by decide +kernel) (.cons (by decide +kernel) .nil)))) (by decide +kernel) (by decide +kernel)

theorem awakeT : prodK 1 1 0 (1 * 1) = 12 ∧ seek 1 (1 * 1) (chs 1 1 0) (lens (chs 1 1 0)) (prodK 1 1 0 (1 * 1)) = (0, -1) :=
  ⟨by decide +kernel, seek_none 1 1 0 (by decide) (by decide) (by decide) (by decide) (by decide) _⟩
theorem rounds2 : prodK 1 2 1 (1 * 2) = 1024 ∧ 0 < (seek 1 (1 * 2) (chs 1 2 1) (lens (chs 1 2 1)) (prodK 1 2 1 (1 * 2))).1 ∧ (seek 1 (1 * 2) (chs 1 2 1) (lens (chs 1 2 1)) (prodK 1 2 1 (1 * 2))).2 = ((1 : Nat) : Int) :=
  ⟨by decide +kernel, seek_meets 1 2 1 1 (by decide) (by decide) (by decide) (by decide) (by decide) [31, 0] (.cons (by decide +kernel) (.cons (by decide +kernel) .nil)) (by decide +kernel) (by decide +kernel)⟩
theorem rounds3 : prodK 1 3 1 (1 * 3) = 32768 ∧ 0 < (seek 1 (1 * 3) (chs 1 3 1) (lens (chs 1 3 1)) (prodK 1 3 1 (1 * 3))).1 ∧ (seek 1 (1 * 3) (chs 1 3 1) (lens (chs 1 3 1)) (prodK 1 3 1 (1 * 3))).2 = ((1 : Nat) : Int) :=
  ⟨by decide +kernel, seek_meets 1 3 1 1 (by decide) (by decide) (by decide) (by decide) (by decide) [31, 0, 0] (.cons (by decide +kernel) (.cons (by decide +kernel) (.cons (by decide +kernel) .nil))) (by decide +kernel) (by decide +kernel)⟩

end Go.Proofs.Ytmoemalkojckaaa.J
