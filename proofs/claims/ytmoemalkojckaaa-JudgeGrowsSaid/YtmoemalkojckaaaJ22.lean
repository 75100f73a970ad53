import Derived.Test.YtmoemalkojckaaaProg
import Derived.Below
import Derived.Deep.Draws
import Derived.Deep.AppendLies
import Derived.OwnWalk
import Derived.Laws.MakeOwn
import Derived.Laws.OwnMore
import Derived.Deep.OwnRows
import Derived.Tactics
import Derived.Laws.Slices
import Derived.WalkKit
import Derived.KernelRfl
import Derived.RowKit3
import Derived.Deep.LoopGhost
import Derived.Deep.QuietTactic
import Derived.BigQuiet
import Derived.Deep.DeepCutAuto
import Derived.Deep.CutBlock
import Derived.Deep.RegionHeld3
import Derived.Laws.Rows
import Derived.Laws.BitsLemmas
import Derived.RowKit
import Derived.Lib.Hide
import Derived.WalkLawsBesides
import Derived.WalkSpells
import Derived.Deep.DeepFit
import Derived.Test.YtmoemalkojckaaaJ6
import Derived.Test.YtmoemalkojckaaaJ15
namespace Go.Proofs.Ytmoemalkojckaaa.J
open Go.RowKit
set_option linter.unusedVariables false
set_option linter.unusedSimpArgs false

/-! ### a tape cut into a table -/
def tv (tape : List Int) (at_ m : Nat) : Nat := if at_ < tape.length then (IntKind.u64.wrap (tape.getD at_ 0) % (m : Int)).toNat else 0
theorem tv_lt (tape : List Int) (at_ m : Nat) (hm : 1 ≤ m) : tv tape at_ m < m := by
  unfold tv
  split
  · have := Int.emod_lt_of_pos (IntKind.u64.wrap (tape.getD at_ 0)) (show (0 : Int) < (m : Int) by omega)
    have := Int.emod_nonneg (IntKind.u64.wrap (tape.getD at_ 0)) (show (m : Int) ≠ 0 by omega)
    omega
  · omega
def rowP (tape : List Int) (n r : Nat) : List Nat := (List.range n).map fun m => tv tape (2 * (r * n + m)) 4
def rowC (tape : List Int) (n r : Nat) : List Nat := (List.range n).map fun m => tv tape (2 * (r * n + m) + 1) 8
def shP (tape : List Int) (n k : Nat) : List (List Nat) := (List.range k).map (rowP tape n)
def shC (tape : List Int) (n k : Nat) : List (List Nat) := (List.range k).map (rowC tape n)
theorem shP_succ (tape : List Int) (n k : Nat) : shP tape n (k + 1) = shP tape n k ++ [rowP tape n k] := by simp [shP, List.range_succ]
theorem shC_succ (tape : List Int) (n k : Nat) : shC tape n (k + 1) = shC tape n k ++ [rowC tape n k] := by simp [shC, List.range_succ]
/-- A row of which m entries are there. -/
def part (l : List Nat) (n m : Nat) : List Nat := l.take m ++ List.replicate (n - m) 0
theorem part_length (l : List Nat) (n m : Nat) (hl : l.length = n) (hm : m ≤ n) : (part l n m).length = n := by
  unfold part; simp; omega
theorem part_set (l : List Nat) (n m : Nat) (hl : l.length = n) (hm : m < n) : (part l n m).set m (l.getD m 0) = part l n (m + 1) := by
  unfold part
  rw [List.set_append_right _ _ (by rw [List.length_take]; omega), List.length_take, hl, Nat.min_eq_left (by omega), Nat.sub_self, List.take_succ_eq_append_getElem (by omega)]
  rw [show n - m = (n - (m + 1)) + 1 by omega, List.replicate_succ, List.set_cons_zero, List.append_assoc]
  congr 1
  simp [List.getD, hl ▸ hm]
theorem part_zero (l : List Nat) (n : Nat) : part l n 0 = List.replicate n 0 := by simp [part]
theorem part_end (l : List Nat) (n : Nat) (hl : l.length = n) : part l n n = l := by
  unfold part; rw [List.take_of_length_le (by omega)]; simp
theorem rowP_length (tape : List Int) (n r : Nat) : (rowP tape n r).length = n := by simp [rowP]
theorem rowC_length (tape : List Int) (n r : Nat) : (rowC tape n r).length = n := by simp [rowC]
theorem rowP_get (tape : List Int) (n r m : Nat) (h : m < n) : (rowP tape n r).getD m 0 = tv tape (2 * (r * n + m)) 4 := by simp [rowP, List.getD, h]
theorem rowC_get (tape : List Int) (n r m : Nat) (h : m < n) : (rowC tape n r).getD m 0 = tv tape (2 * (r * n + m) + 1) 8 := by simp [rowC, List.getD, h]
theorem shape_valid (tape : List Int) (n k : Nat) (h1 : 1 ≤ n) (h7 : n ≤ 7) (k1 : 1 ≤ k) (k3 : k ≤ 3) : JM.Valid n (shP tape n k) (shC tape n k) where
  len := by simp [shP, shC]
  pos := by simp [shP]; omega
  le := by simp [shP]; omega
  n1 := h1
  n7 := h7
  p := by
    intro l hl
    obtain ⟨r, _, rfl⟩ := List.mem_map.1 hl
    refine ⟨rowP_length _ _ _, fun x hx => ?_⟩
    obtain ⟨m, _, rfl⟩ := List.mem_map.1 hx
    have := tv_lt tape (2 * (r * n + m)) 4 (by omega)
    omega
  c := by
    intro l hl
    obtain ⟨r, _, rfl⟩ := List.mem_map.1 hl
    refine ⟨rowC_length _ _ _, fun x hx => ?_⟩
    obtain ⟨m, _, rfl⟩ := List.mem_map.1 hx
    have := tv_lt tape (2 * (r * n + m) + 1) 8 (by omega)
    omega

/-! ### a filled row is appended -/
theorem Rows2.push {w w1 : World} {base : Nat} {v : Value} {gs : List Nat} {rows : List (List Nat)} {n : Nat} (h : Rows2 w base v gs rows n) {g q cap : Nat} {row : List Nat} (hg : Blk w g (nums row) 3) (hrow : row.length = n) (hb : base ≤ g) (hn : g ∉ gs)
    (hown : w1.ownsRow base 45 1 (.slice (some ⟨q, 0, none⟩) (gs.length + 1) cap) (gs.length + 1) (gs.map (slv n) ++ [slv n g])) (hk : ∀ k, k ∈ gs ∨ k = g → w1.heap[k]? = w.heap[k]?) :
    Rows2 w1 base (.slice (some ⟨q, 0, none⟩) (gs.length + 1) cap) (gs ++ [g]) (rows ++ [row]) n := by
  have hlen : (gs ++ [g]).length = gs.length + 1 := by simp
  have g1 : ∀ r, r < gs.length → (gs ++ [g]).getD r 0 = gs.getD r 0 := fun r hlt => by simp [List.getD, List.getElem?_append, hlt]
  have g2 : (gs ++ [g]).getD gs.length 0 = g := by simp [List.getD]
  refine ⟨by rw [hlen, List.map_append]; exact hown, by simp [h.len], fun r hr => ?_, fun r r' hr hr' he => ?_⟩
  · rw [hlen] at hr
    by_cases hlt : r < gs.length
    · have e2 : (rows ++ [row]).getD r [] = rows.getD r [] := by simp [List.getD, List.getElem?_append, h.len ▸ hlt]
      rw [g1 r hlt, e2]
      refine ⟨?_, (h.blk r hlt).2⟩
      unfold Blk
      rw [hk _ (.inl (getD_mem hlt))]
      exact (h.blk r hlt).1
    · obtain rfl : r = gs.length := by omega
      have e2 : (rows ++ [row]).getD gs.length [] = row := by rw [h.len]; simp [List.getD]
      rw [g2, e2]
      refine ⟨?_, hrow, hb⟩
      unfold Blk
      rw [hk _ (.inr rfl)]
      exact hg
  · rw [hlen] at hr hr'
    by_cases a : r < gs.length <;> by_cases b : r' < gs.length
    · rw [g1 r a, g1 r' b] at he; exact h.nodup r r' a b he
    · obtain rfl : r' = gs.length := by omega
      rw [g1 r a, g2] at he
      exact absurd (he ▸ getD_mem a) hn
    · obtain rfl : r = gs.length := by omega
      rw [g1 r' b, g2] at he
      exact absurd (he ▸ getD_mem b) hn
    · omega

/-- What 'shape' has made: TI, and the counter. W holds the tape's box already. -/
structure SH (W wr : World) (n : Nat) (rP rC : List (List Nat)) (vP vC : Value) (gP gC : List Nat) (c : Nat) : Prop where
  ti : TI W wr n rP rC vP vC gP gC
  ctr : Blk wr (W.heap.size + 2) [.int .i64 (c : Int)] 3
  nP : W.heap.size + 2 ∉ gP
  nC : W.heap.size + 2 ∉ gC

/-- Both rows are appended. w2: behind both appends; then the two stores. -/
theorem SH.push {W wr w2 : World} {n : Nat} {rP rC : List (List Nat)} {vP vC : Value} {gP gC : List Nat} {c a b q1 c1 q2 c2 : Nat} {ra rb : List Nat} (h : SH W wr n rP rC vP vC gP gC c)
    (ha : Blk wr a (nums ra) 3) (hb : Blk wr b (nums rb) 3) (la : ra.length = n) (lb : rb.length = n) (hab : a ≠ b) (na : W.heap.size + 2 < a) (nb : W.heap.size + 2 < b)
    (fa : ¬ Foot vP gP a ∧ ¬ Foot vC gC a) (fb : ¬ Foot vP gP b ∧ ¬ Foot vC gC b)
    (o1 : w2.ownsRow W.heap.size 45 1 (.slice (some ⟨q1, 0, none⟩) (gP.length + 1) c1) (gP.length + 1) (gP.map (slv n) ++ [slv n a]))
    (o2 : w2.ownsRow W.heap.size 45 1 (.slice (some ⟨q2, 0, none⟩) (gC.length + 1) c2) (gC.length + 1) (gC.map (slv n) ++ [slv n b]))
    (at1 : vP.ownBlock = some q1 ∨ wr.heap.size ≤ q1) (at2 : vC.ownBlock = some q2 ∨ wr.heap.size ≤ q2) (hq : q1 ≠ q2)
    (keep : ∀ k, k < wr.heap.size → vP.ownBlock ≠ some k → vC.ownBlock ≠ some k → w2.heap[k]? = wr.heap[k]?) (hos : w2.os = wr.os ∧ w2.tape = wr.tape ∧ w2.output = wr.output ∧ wr.heap.size ≤ w2.heap.size) :
    SH W ((w2.setCell ⟨W.heap.size + 1, 0, none⟩ (.slice (some ⟨q1, 0, none⟩) (gP.length + 1) c1)).setCell ⟨W.heap.size + 1, 1, none⟩ (.slice (some ⟨q2, 0, none⟩) (gC.length + 1) c2)) n (rP ++ [ra]) (rC ++ [rb])
      (.slice (some ⟨q1, 0, none⟩) (gP.length + 1) c1) (.slice (some ⟨q2, 0, none⟩) (gC.length + 1) c2) (gP ++ [a]) (gC ++ [b]) c := by
  have hT := h.ti
  have hsz := hT.below.size
  have kT : w2.heap[W.heap.size + 1]? = wr.heap[W.heap.size + 1]? := keep _ hT.t.lt (own_ne hT.p.own hT.t (by decide)) (own_ne hT.c.own hT.t (by decide))
  have kR : w2.heap[W.heap.size]? = wr.heap[W.heap.size]? := keep _ hT.res.lt (own_ne hT.p.own hT.res (by decide)) (own_ne hT.c.own hT.res (by decide))
  have k3 : ∀ k vs, Blk wr k vs 3 → w2.heap[k]? = wr.heap[k]? := fun k vs hk => keep k hk.lt (own_ne hT.p.own hk (by decide)) (own_ne hT.c.own hk (by decide))
  have kP : ∀ k, k ∈ gP ∨ k = a → w2.heap[k]? = wr.heap[k]? := fun k hk => by
    rcases hk with hk | rfl
    · obtain ⟨r, hr, rfl⟩ := mem_getD hk
      exact k3 _ _ (hT.p.blk r hr).1
    · exact k3 _ _ ha
  have kC : ∀ k, k ∈ gC ∨ k = b → w2.heap[k]? = wr.heap[k]? := fun k hk => by
    rcases hk with hk | rfl
    · obtain ⟨r, hr, rfl⟩ := mem_getD hk
      exact k3 _ _ (hT.c.blk r hr).1
    · exact k3 _ _ hb
  have hP := hT.p.push ha la (by omega) (fun e => fa.1 (.inr e)) o1 kP
  have hC := hT.c.push hb lb (by omega) (fun e => fb.2 (.inr e)) o2 kC
  have t2 : Blk w2 (W.heap.size + 1) [vP, vC] 24 := by unfold Blk; rw [kT]; exact hT.t
  have r2 : Blk w2 W.heap.size [.slice none 0 0, .slice none 0 0] 24 := by unfold Blk; rw [kR]; exact hT.res
  have c2' : Blk w2 (W.heap.size + 2) [.int .i64 (c : Int)] 3 := by unfold Blk; rw [k3 _ _ h.ctr]; exact h.ctr
  have nP := hP.not t2 (by decide) (by decide)
  have nC := hC.not t2 (by decide) (by decide)
  have b2 : Below W.heap.size W w2 := by
    refine ⟨hos.1.trans hT.below.os, hos.2.1.trans hT.below.tape, hos.2.2.1.trans hT.below.output, Nat.le_trans hsz hos.2.2.2, fun k hk => ?_⟩
    rw [keep k (by omega) (fun e => by have := (hT.p.own.lt k e).1; omega) (fun e => by have := (hT.c.own.lt k e).1; omega)]
    exact hT.below.block k hk
  have far : ∀ (k : Nat) (x y : Value), k ≠ W.heap.size + 1 → ((w2.setCell ⟨W.heap.size + 1, 0, none⟩ x).setCell ⟨W.heap.size + 1, 1, none⟩ y).heap[k]? = w2.heap[k]? := fun k x y hk => by
    rw [Below.heap_setCell _ _ _ _ hk, Below.heap_setCell _ _ _ _ hk]
  refine ⟨⟨?_, (r2.far (by omega) _ _).far (by omega) _ _, hP.move (fun k hk => far k _ _ (fun e => nP (e ▸ hk))), hC.move (fun k hk => far k _ _ (fun e => nC (e ▸ hk))), fun k hk1 hk2 => ?_, (b2.setCell (by simp) _).setCell (by simp) _⟩,
    (c2'.far (by omega) _ _).far (by omega) _ _, ?_, ?_⟩
  · have := (t2.set 0 (.slice (some ⟨q1, 0, none⟩) (gP.length + 1) c1)).set 1 (.slice (some ⟨q2, 0, none⟩) (gC.length + 1) c2)
    exact this
  · have s1 : k = q1 ∨ k ∈ gP ∨ k = a := by
      rcases hk1 with e | e
      · left; simpa [Value.ownBlock, eq_comm] using e
      · right; simpa using e
    have s2 : k = q2 ∨ k ∈ gC ∨ k = b := by
      rcases hk2 with e | e
      · left; simpa [Value.ownBlock, eq_comm] using e
      · right; simpa using e
    have ltP : ∀ k, k ∈ gP → k < wr.heap.size := fun k hk => (hT.p.lt (.inr hk)).2
    have ltC : ∀ k, k ∈ gC → k < wr.heap.size := fun k hk => (hT.c.lt (.inr hk)).2
    have la' := ha.lt
    have lb' := hb.lt
    rcases s1 with rfl | s1 | rfl
    · rcases s2 with s2 | s2 | rfl
      · exact hq s2
      · rcases at1 with at1 | at1
        · exact hT.sep k (.inl at1) (.inr s2)
        · have := ltC k s2; omega
      · rcases at1 with at1 | at1
        · exact fb.1 (.inl at1)
        · omega
    · rcases s2 with rfl | s2 | rfl
      · rcases at2 with at2 | at2
        · exact hT.sep k (.inr s1) (.inl at2)
        · have := ltP k s1; omega
      · exact hT.sep k (.inr s1) (.inr s2)
      · exact fb.1 (.inr s1)
    · rcases s2 with rfl | s2 | rfl
      · rcases at2 with at2 | at2
        · exact fa.2 (.inl at2)
        · omega
      · exact fa.2 (.inr s2)
      · exact hab rfl
  · intro e
    rcases List.mem_append.1 e with e | e
    · exact h.nP e
    · simp at e; omega
  · intro e
    rcases List.mem_append.1 e with e | e
    · exact h.nC e
    · simp at e; omega

end Go.Proofs.Ytmoemalkojckaaa.J
