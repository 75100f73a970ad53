import Derived.Test.YtmoemalkojckaaaProg
import Derived.Below
import Derived.Deep.Draws
import Derived.Deep.AppendLies
import Derived.OwnWalk
import Derived.Laws.MakeOwn
import Derived.Laws.OwnMore
import Derived.Deep.OwnRows
import Derived.Tactics
import Derived.Laws.Slices
import Derived.WalkKit
import Derived.KernelRfl
import Derived.RowKit3
import Derived.Deep.LoopGhost
import Derived.Deep.QuietTactic
import Derived.BigQuiet
import Derived.Deep.DeepCutAuto
import Derived.Deep.CutBlock
import Derived.Deep.RegionHeld3
import Derived.Laws.Rows
import Derived.Laws.BitsLemmas
import Derived.RowKit
import Derived.Lib.Hide
import Derived.WalkLawsBesides
import Derived.WalkSpells
import Derived.Deep.DeepFit
import Derived.Test.YtmoemalkojckaaaJ26
import Derived.Test.YtmoemalkojckaaaJ25
namespace Go.Proofs.Ytmoemalkojckaaa.J
open Go.RowKit
set_option linter.unusedVariables false
set_option linter.unusedSimpArgs false

/-! ### JudgeGrows' memory: u's rows, half way -/
def mixAt (U T : List (List Nat)) (r m i j : Nat) : Nat := if i < r ∨ (i = r ∧ j < m) then (U.getD i []).getD j 0 ||| (T.getD i []).getD j 0 else (U.getD i []).getD j 0
structure Mix (U T R : List (List Nat)) (n r m : Nat) : Prop where
  len : R.length = U.length
  row : ∀ i, i < U.length → (R.getD i []).length = n
  ent : ∀ i j, i < U.length → j < n → (R.getD i []).getD j 0 = mixAt U T r m i j

theorem Mix.start {U T : List (List Nat)} {n : Nat} (h : ∀ i, i < U.length → (U.getD i []).length = n) : Mix U T U n 0 0 :=
  ⟨rfl, h, fun i j hi hj => by unfold mixAt; rw [if_neg (by omega)]⟩
theorem Mix.set {U T R : List (List Nat)} {n r m : Nat} (h : Mix U T R n r m) (hr : r < U.length) (hm : m < n) :
    Mix U T (R.set r ((R.getD r []).set m ((U.getD r []).getD m 0 ||| (T.getD r []).getD m 0))) n r (m + 1) := by
  refine ⟨by simp [h.len], fun i hi => ?_, fun i j hi hj => ?_⟩
  · by_cases e : i = r
    · subst e
      have : (R.set i ((R.getD i []).set m ((U.getD i []).getD m 0 ||| (T.getD i []).getD m 0))).getD i [] = (R.getD i []).set m ((U.getD i []).getD m 0 ||| (T.getD i []).getD m 0) := by simp [List.getD, h.len, hi]
      rw [this, List.length_set]; exact h.row i hi
    · have : (R.set r ((R.getD r []).set m ((U.getD r []).getD m 0 ||| (T.getD r []).getD m 0))).getD i [] = R.getD i [] := by simp [List.getD, List.getElem?_set_ne (Ne.symm e)]
      rw [this]; exact h.row i hi
  · by_cases e : i = r
    · subst e
      have e1 : (R.set i ((R.getD i []).set m ((U.getD i []).getD m 0 ||| (T.getD i []).getD m 0))).getD i [] = (R.getD i []).set m ((U.getD i []).getD m 0 ||| (T.getD i []).getD m 0) := by simp [List.getD, h.len, hi]
      rw [e1]
      by_cases e2 : j = m
      · subst e2
        have : ((R.getD i []).set j ((U.getD i []).getD j 0 ||| (T.getD i []).getD j 0)).getD j 0 = (U.getD i []).getD j 0 ||| (T.getD i []).getD j 0 := by rw [List.getD, List.getElem?_set_self (by rw [h.row i hi]; exact hj)]; rfl
        rw [this]; unfold mixAt; rw [if_pos (by omega)]
      · have : ((R.getD i []).set m ((U.getD i []).getD m 0 ||| (T.getD i []).getD m 0)).getD j 0 = (R.getD i []).getD j 0 := by rw [List.getD, List.getElem?_set_ne (Ne.symm e2)]; rfl
        rw [this, h.ent i j hi hj]; unfold mixAt
        by_cases h1 : i < i ∨ (i = i ∧ j < m)
        · rw [if_pos h1, if_pos (by omega)]
        · rw [if_neg h1, if_neg (by omega)]
    · have : (R.set r ((R.getD r []).set m ((U.getD r []).getD m 0 ||| (T.getD r []).getD m 0))).getD i [] = R.getD i [] := by simp [List.getD, List.getElem?_set_ne (Ne.symm e)]
      rw [this, h.ent i j hi hj]; unfold mixAt
      by_cases h1 : i < r ∨ (i = r ∧ j < m)
      · rw [if_pos h1, if_pos (by omega)]
      · rw [if_neg h1, if_neg (by omega)]
theorem Mix.next {U T R : List (List Nat)} {n r : Nat} (h : Mix U T R n r n) : Mix U T R n (r + 1) 0 :=
  ⟨h.len, h.row, fun i j hi hj => by
    rw [h.ent i j hi hj]; unfold mixAt
    by_cases h1 : i < r ∨ (i = r ∧ j < n)
    · rw [if_pos h1, if_pos (by omega)]
    · rw [if_neg h1, if_neg (by omega)]⟩
theorem Mix.done {U T R : List (List Nat)} {n r : Nat} (h : Mix U T R n r 0) (hr : U.length ≤ r) (hl : U.length = T.length) (ht : ∀ i, i < U.length → (T.getD i []).length = n) : R = orT U T := by
  apply List.ext_getElem?
  intro i
  by_cases hi : i < U.length
  · have a1 : R[i]? = some (R.getD i []) := by rw [List.getD, List.getElem?_eq_getElem (by rw [h.len]; exact hi)]; rfl
    have a2 : (orT U T)[i]? = some ((orT U T).getD i []) := by rw [List.getD, List.getElem?_eq_getElem (by rw [orT_length]; omega)]; rfl
    rw [a1, a2, orT_row U T i (by omega), ht i hi]
    congr 1
    apply List.ext_getElem?
    intro j
    by_cases hj : j < n
    · have b1 : (R.getD i [])[j]? = some ((R.getD i []).getD j 0) := by rw [List.getElem?_eq_getElem (by rw [h.row i hi]; exact hj), getD_lt]
      rw [b1, h.ent i j hi hj, List.getElem?_map, List.getElem?_range hj]
      unfold mixAt
      rw [if_pos (by omega)]; rfl
    · rw [List.getElem?_eq_none (by rw [h.row i hi]; omega), List.getElem?_eq_none (by simp; omega)]
  · rw [List.getElem?_eq_none (by rw [h.len]; omega), List.getElem?_eq_none (by rw [orT_length]; omega)]
theorem Mix.le {U T R : List (List Nat)} {n r m : Nat} (h : Mix U T R n r m) (hr : r < U.length) (hm : m < n) : (R.getD r []).getD m 0 = (U.getD r []).getD m 0 := by
  rw [h.ent r m hr hm]; unfold mixAt; rw [if_neg (by omega)]

structure GI (w1 wr : World) (n : Nat) (vP vC uP uC : Value) (gP gC : List Nat) (tP tC UP UC : List (List Nat)) (b : Nat) (r mP mC : Nat) : Prop where
  below : Below w1.heap.size w1 wr
  lb : w1.heap.size ≤ b
  rows : ∃ RP RC, Rows2 wr w1.heap.size uP gP RP n ∧ Rows2 wr w1.heap.size uC gC RC n ∧ Mix UP tP RP n r mP ∧ Mix UC tC RC n r mC
  sep : ∀ k, Foot uP gP k → Foot uC gC k → False
  bt : Blk wr b [vP, vC] 24
  bu : Blk wr (b + 1) [uP, uC] 24
section
variable {w1 wr wx : World} {n : Nat} {vP vC uP uC : Value} {gP gC : List Nat} {tP tC UP UC : List (List Nat)} {b r mP mC : Nat}
theorem GI.stepP (h : GI w1 wr n vP vC uP uC gP gC tP tC UP UC b r mP mC) (hr : r < UP.length) (hm : mP < n) :
    GI w1 (wr.setCell ⟨gP.getD r 0, mP, none⟩ (.int .i64 (((UP.getD r []).getD mP 0 ||| (tP.getD r []).getD mP 0 : Nat) : Int))) n vP vC uP uC gP gC tP tC UP UC b r (mP + 1) mC := by
  obtain ⟨RP, RC, p, c, xP, xC⟩ := h.rows
  have hrg : r < gP.length := by rw [p.len, xP.len]; exact hr
  have n1 := blk_ne (p.blk r hrg).1 h.bt (by decide)
  have n2 := blk_ne (p.blk r hrg).1 h.bu (by decide)
  refine ⟨h.below.setCell (p.blk r hrg).2.2 _, h.lb, ⟨_, RC, p.put hrg mP _ hm, c.move (fun k hk => Below.heap_setCell _ _ _ _ (fun e => h.sep k (.inr (by have e' : k = gP.getD r 0 := e; rw [e']; exact getD_mem hrg)) hk)), xP.set hr hm, xC⟩, h.sep, h.bt.far (Ne.symm n1) _ _, h.bu.far (Ne.symm n2) _ _⟩
theorem GI.stepC (h : GI w1 wr n vP vC uP uC gP gC tP tC UP UC b r mP mC) (hr : r < UC.length) (hm : mC < n) :
    GI w1 (wr.setCell ⟨gC.getD r 0, mC, none⟩ (.int .i64 (((UC.getD r []).getD mC 0 ||| (tC.getD r []).getD mC 0 : Nat) : Int))) n vP vC uP uC gP gC tP tC UP UC b r mP (mC + 1) := by
  obtain ⟨RP, RC, p, c, xP, xC⟩ := h.rows
  have hrg : r < gC.length := by rw [c.len, xC.len]; exact hr
  have n1 := blk_ne (c.blk r hrg).1 h.bt (by decide)
  have n2 := blk_ne (c.blk r hrg).1 h.bu (by decide)
  refine ⟨h.below.setCell (c.blk r hrg).2.2 _, h.lb, ⟨RP, _, p.move (fun k hk => Below.heap_setCell _ _ _ _ (fun e => h.sep k hk (.inr (by have e' : k = gC.getD r 0 := e; rw [e']; exact getD_mem hrg)))), c.put hrg mC _ hm, xP, xC.set hr hm⟩, h.sep, h.bt.far (Ne.symm n1) _ _, h.bu.far (Ne.symm n2) _ _⟩
theorem GI.next (h : GI w1 wr n vP vC uP uC gP gC tP tC UP UC b r n n) : GI w1 wr n vP vC uP uC gP gC tP tC UP UC b (r + 1) 0 0 := by
  obtain ⟨RP, RC, p, c, xP, xC⟩ := h.rows
  exact ⟨h.below, h.lb, ⟨RP, RC, p, c, xP.next, xC.next⟩, h.sep, h.bt, h.bu⟩
/-- What the regions read of u's first table, and of its second. -/
theorem GI.readP (h : GI w1 wr n vP vC uP uC gP gC tP tC UP UC b r mP mC) (hr : r < UP.length) (hm : mP < n) :
    ∃ q c, uP = .slice (some ⟨q, 0, none⟩) UP.length c ∧ wr.cell? ⟨q, r, none⟩ = some (.slice (some ⟨gP.getD r 0, 0, none⟩) n n) ∧ wr.cell? ⟨gP.getD r 0, mP, none⟩ = some (.int .i64 (((UP.getD r []).getD mP 0 : Nat) : Int)) ∧
      wr.frozen? ⟨gP.getD r 0, mP, none⟩ = false ∧ gP.getD r 0 ≠ q ∧ gP.getD r 0 ≠ b ∧ gP.getD r 0 ≠ b + 1 ∧ w1.heap.size ≤ gP.getD r 0 := by
  obtain ⟨RP, RC, p, c, xP, xC⟩ := h.rows
  have hrg : r < gP.length := by rw [p.len, xP.len]; exact hr
  obtain ⟨q, cc, e, hc⟩ := p.cell hrg
  obtain ⟨hb, hn, hbase⟩ := p.blk r hrg
  have hv := hb.cell mP (nums_get _ mP (by rw [hn]; exact hm))
  have hv2 : (RP.getD r [])[mP]'(by rw [hn]; exact hm) = (UP.getD r []).getD mP 0 := by
    rw [← xP.le hr hm, getD_lt]
  rw [hv2] at hv
  refine ⟨q, cc, by rw [e, p.len, xP.len], hc, hv, hb.free mP, fun e2 => own_ne p.own hb (by decide) (by rw [e, e2]; rfl), blk_ne hb h.bt (by decide), blk_ne hb h.bu (by decide), hbase⟩
theorem GI.readC (h : GI w1 wr n vP vC uP uC gP gC tP tC UP UC b r mP mC) (hr : r < UC.length) (hm : mC < n) :
    ∃ q c, uC = .slice (some ⟨q, 0, none⟩) UC.length c ∧ wr.cell? ⟨q, r, none⟩ = some (.slice (some ⟨gC.getD r 0, 0, none⟩) n n) ∧ wr.cell? ⟨gC.getD r 0, mC, none⟩ = some (.int .i64 (((UC.getD r []).getD mC 0 : Nat) : Int)) ∧
      wr.frozen? ⟨gC.getD r 0, mC, none⟩ = false ∧ gC.getD r 0 ≠ q ∧ gC.getD r 0 ≠ b ∧ gC.getD r 0 ≠ b + 1 ∧ w1.heap.size ≤ gC.getD r 0 := by
  obtain ⟨RP, RC, p, c, xP, xC⟩ := h.rows
  have hrg : r < gC.length := by rw [c.len, xC.len]; exact hr
  obtain ⟨q, cc, e, hc⟩ := c.cell hrg
  obtain ⟨hb, hn, hbase⟩ := c.blk r hrg
  have hv := hb.cell mC (nums_get _ mC (by rw [hn]; exact hm))
  have hv2 : (RC.getD r [])[mC]'(by rw [hn]; exact hm) = (UC.getD r []).getD mC 0 := by
    rw [← xC.le hr hm, getD_lt]
  rw [hv2] at hv
  refine ⟨q, cc, by rw [e, c.len, xC.len], hc, hv, hb.free mC, fun e2 => own_ne c.own hb (by decide) (by rw [e, e2]; rfl), blk_ne hb h.bt (by decide), blk_ne hb h.bu (by decide), hbase⟩
end
/-- What they read of t's tables: rows that lie below. -/
theorem Rows2.read {w1 wr : World} {base n r m : Nat} {v : Value} {g : List Nat} {R : List (List Nat)} (h : Rows2 w1 base v g R n) (hb : Below w1.heap.size w1 wr) (hr : r < R.length) (hm : m < n) :
    ∃ q c a, v = .slice (some ⟨q, 0, none⟩) R.length c ∧ q < w1.heap.size ∧ a < w1.heap.size ∧ wr.cell? ⟨q, r, none⟩ = some (.slice (some ⟨a, 0, none⟩) n n) ∧ wr.cell? ⟨a, m, none⟩ = some (.int .i64 (((R.getD r []).getD m 0 : Nat) : Int)) := by
  have hrg : r < g.length := by rw [h.len]; exact hr
  obtain ⟨q, cc, e, hc⟩ := h.cell hrg
  obtain ⟨hk, hn, hbase⟩ := h.blk r hrg
  have hv := hk.cell m (nums_get _ m (by rw [hn]; exact hm))
  have hv2 : (R.getD r [])[m]'(by rw [hn]; exact hm) = (R.getD r []).getD m 0 := by
    rw [getD_lt]
  rw [hv2] at hv
  have hq := World.block_lt_of_cell? w1 _ hc
  exact ⟨q, cc, g.getD r 0, by rw [e, h.len], hq, hk.lt, (hb.cell hq).trans hc, (hb.cell (p := ⟨g.getD r 0, m, none⟩) hk.lt).trans hv⟩
end Go.Proofs.Ytmoemalkojckaaa.J
