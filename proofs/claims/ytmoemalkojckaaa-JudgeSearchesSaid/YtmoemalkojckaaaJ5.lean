import Derived.Test.YtmoemalkojckaaaProg
import Derived.Below
import Derived.Deep.Draws
import Derived.Deep.AppendLies
import Derived.OwnWalk
import Derived.Laws.MakeOwn
import Derived.Laws.OwnMore
import Derived.Deep.OwnRows
import Derived.Tactics
import Derived.Laws.Slices
import Derived.WalkKit
import Derived.KernelRfl
import Derived.RowKit3
import Derived.Deep.LoopGhost
import Derived.Deep.QuietTactic
import Derived.BigQuiet
import Derived.Deep.DeepCutAuto
import Derived.Deep.CutBlock
import Derived.Deep.RegionHeld3
import Derived.Laws.Rows
import Derived.Laws.BitsLemmas
import Derived.RowKit
import Derived.Lib.Hide
import Derived.WalkLawsBesides
import Derived.WalkSpells
import Derived.Deep.DeepFit
import Derived.Deep.AppendLies
import Derived.Deep.RegionLaw
import Derived.Test.YtmoemalkojckaaaJ4
namespace Go.Proofs.Ytmoemalkojckaaa.J
open Go.RowKit
set_option linter.unusedVariables false
set_option linter.unusedSimpArgs false

theorem info45 : (Try.prog.info? 45).map (fun i => (i.zero, i.size, i.bytes)) = some (some (.slice none 0 0), 1, 24) := by kernel_rfl
theorem info3 : (Try.prog.info? 3).map (fun i => (i.zero, i.size, i.bytes)) = some (some (.int .i64 0), 1, 8) := by kernel_rfl

/-- What 'table' has made: the block behind W's end holds the variable t. -/
structure TI (W wr : World) (n : Nat) (rP rC : List (List Nat)) (vP vC : Value) (gP gC : List Nat) : Prop where
  t : Blk wr (W.heap.size + 1) [vP, vC] 24
  res : Blk wr W.heap.size [.slice none 0 0, .slice none 0 0] 24
  p : Rows2 wr W.heap.size vP gP rP n
  c : Rows2 wr W.heap.size vC gC rC n
  sep : ∀ b, Foot vP gP b → Foot vC gC b → False
  below : Below W.heap.size W wr

theorem grown_undrew {X w1 : World} {r : Option Nat} (h : X.drew.grownBy w1 r) : X.grownBy w1 r := ⟨h.os, h.tape, h.output, h.size, h.block⟩

section
variable {W wr w1 : World} {n : Nat} {rP rC : List (List Nat)} {vP vC : Value} {gP gC : List Nat} {o2 : Obj} {g cap : Nat}
theorem TI.growP (h : TI W wr n rP rC vP vC gP gC)
    (hown : w1.ownsRow W.heap.size 45 1 (.slice (some ⟨g, 0, none⟩) (gP.length + 1) cap) (gP.length + 1) (gP.map (slv n) ++ [slv n wr.heap.size]))
    (hg : ((wr.alloc (.cells (nums (List.replicate n 0)).toArray 3)).alloc o2).drew.grownBy w1 vP.ownBlock) (hat : vP.ownBlock = some g ∨ g = wr.heap.size + 2) :
    TI W (w1.setCell ⟨W.heap.size + 1, 0, none⟩ (.slice (some ⟨g, 0, none⟩) (gP.length + 1) cap)) n (rP ++ [List.replicate n 0]) rC (.slice (some ⟨g, 0, none⟩) (gP.length + 1) cap) vC (gP ++ [wr.heap.size]) gC := by
  have hg := grown_undrew hg
  have hb := h.below.size
  have hP := h.p.grow hb hown hg
  have aP := own_ne h.p.own h.t (by decide)
  have aR := own_ne h.p.own h.res (by decide)
  have ht1 : Blk w1 (W.heap.size + 1) [vP, vC] 24 := ((h.t.alloc _).alloc _).grown hg (Ne.symm aP)
  have hr1 : Blk w1 W.heap.size [.slice none 0 0, .slice none 0 0] 24 := ((h.res.alloc _).alloc _).grown hg (Ne.symm aR)
  have hold : ∀ k, k < wr.heap.size → some k ≠ vP.ownBlock → w1.heap[k]? = wr.heap[k]? := fun k hk hne => by
    rw [hg.block k (by simp; omega) hne, Below.heap_alloc _ _ _ (by simp; omega), Below.heap_alloc _ _ _ hk]
  have hC : Rows2 w1 W.heap.size vC gC rC n := h.c.move fun k hk => hold k (h.c.lt hk).2 (fun e => h.sep k (.inl e.symm) hk)
  have nP := hP.not ht1 (by decide) (by decide)
  have nC := hC.not ht1 (by decide) (by decide)
  refine ⟨?_, hr1.far (by omega) _ _, hP.move (fun k hk => Below.heap_setCell _ _ _ _ (fun e => nP (by have e' : k = W.heap.size + 1 := e; rw [← e']; exact hk))), hC.move (fun k hk => Below.heap_setCell _ _ _ _ (fun e => nC (by have e' : k = W.heap.size + 1 := e; rw [← e']; exact hk))), fun b hb1 hb2 => ?_, ?_⟩
  · simpa using ht1.set 0 (.slice (some ⟨g, 0, none⟩) (gP.length + 1) cap)
  · have lt2 := (h.c.lt hb2).2
    rcases hb1 with hb1 | hb1
    · have e : g = b := by simpa [Value.ownBlock] using hb1
      subst e
      rcases hat with hat | hat
      · exact h.sep g (.inl hat) hb2
      · omega
    · rcases List.mem_append.1 hb1 with hb1 | hb1
      · exact h.sep b (.inr hb1) hb2
      · simp at hb1; omega
  · exact ((((h.below.alloc hb _).alloc (by simp; omega) _).grown hg (by simp; omega) (fun k hk => (h.p.own.lt k hk).1))).setCell (by simp) _
theorem TI.growC (h : TI W wr n rP rC vP vC gP gC)
    (hown : w1.ownsRow W.heap.size 45 1 (.slice (some ⟨g, 0, none⟩) (gC.length + 1) cap) (gC.length + 1) (gC.map (slv n) ++ [slv n wr.heap.size]))
    (hg : ((wr.alloc (.cells (nums (List.replicate n 0)).toArray 3)).alloc o2).drew.grownBy w1 vC.ownBlock) (hat : vC.ownBlock = some g ∨ g = wr.heap.size + 2) :
    TI W (w1.setCell ⟨W.heap.size + 1, 1, none⟩ (.slice (some ⟨g, 0, none⟩) (gC.length + 1) cap)) n rP (rC ++ [List.replicate n 0]) vP (.slice (some ⟨g, 0, none⟩) (gC.length + 1) cap) gP (gC ++ [wr.heap.size]) := by
  have hg := grown_undrew hg
  have hb := h.below.size
  have hC := h.c.grow hb hown hg
  have aP := own_ne h.c.own h.t (by decide)
  have aR := own_ne h.c.own h.res (by decide)
  have ht1 : Blk w1 (W.heap.size + 1) [vP, vC] 24 := ((h.t.alloc _).alloc _).grown hg (Ne.symm aP)
  have hr1 : Blk w1 W.heap.size [.slice none 0 0, .slice none 0 0] 24 := ((h.res.alloc _).alloc _).grown hg (Ne.symm aR)
  have hold : ∀ k, k < wr.heap.size → some k ≠ vC.ownBlock → w1.heap[k]? = wr.heap[k]? := fun k hk hne => by
    rw [hg.block k (by simp; omega) hne, Below.heap_alloc _ _ _ (by simp; omega), Below.heap_alloc _ _ _ hk]
  have hP : Rows2 w1 W.heap.size vP gP rP n := h.p.move fun k hk => hold k (h.p.lt hk).2 (fun e => h.sep k hk (.inl e.symm))
  have nP := hP.not ht1 (by decide) (by decide)
  have nC := hC.not ht1 (by decide) (by decide)
  refine ⟨?_, hr1.far (by omega) _ _, hP.move (fun k hk => Below.heap_setCell _ _ _ _ (fun e => nP (by have e' : k = W.heap.size + 1 := e; rw [← e']; exact hk))), hC.move (fun k hk => Below.heap_setCell _ _ _ _ (fun e => nC (by have e' : k = W.heap.size + 1 := e; rw [← e']; exact hk))), fun b hb2 hb1 => ?_, ?_⟩
  · simpa using ht1.set 1 (.slice (some ⟨g, 0, none⟩) (gC.length + 1) cap)
  · have lt2 := (h.p.lt hb2).2
    rcases hb1 with hb1 | hb1
    · have e : g = b := by simpa [Value.ownBlock] using hb1
      subst e
      rcases hat with hat | hat
      · exact h.sep g hb2 (.inl hat)
      · omega
    · rcases List.mem_append.1 hb1 with hb1 | hb1
      · exact h.sep b hb2 (.inr hb1)
      · simp at hb1; omega
  · exact ((((h.below.alloc hb _).alloc (by simp; omega) _).grown hg (by simp; omega) (fun k hk => (h.c.own.lt k hk).1))).setCell (by simp) _
theorem TI.putP (h : TI W wr n rP rC vP vC gP gC) {r m x : Nat} (hr : r < gP.length) (hm : m < n) :
    TI W (wr.setCell ⟨gP.getD r 0, m, none⟩ (.int .i64 (x : Int))) n (rP.set r ((rP.getD r []).set m x)) rC vP vC gP gC := by
  have nt := blk_ne (h.p.blk r hr).1 h.t (by decide)
  have nr := blk_ne (h.p.blk r hr).1 h.res (by decide)
  refine ⟨h.t.far (Ne.symm nt) _ _, h.res.far (Ne.symm nr) _ _, h.p.put hr m x hm, h.c.move (fun k hk => Below.heap_setCell _ _ _ _ (fun e => h.sep k (.inr (by have e' : k = gP.getD r 0 := e; rw [e']; exact getD_mem hr)) hk)), h.sep, h.below.setCell (h.p.blk r hr).2.2 _⟩
theorem TI.putC (h : TI W wr n rP rC vP vC gP gC) {r m x : Nat} (hr : r < gC.length) (hm : m < n) :
    TI W (wr.setCell ⟨gC.getD r 0, m, none⟩ (.int .i64 (x : Int))) n rP (rC.set r ((rC.getD r []).set m x)) vP vC gP gC := by
  have nt := blk_ne (h.c.blk r hr).1 h.t (by decide)
  have nr := blk_ne (h.c.blk r hr).1 h.res (by decide)
  refine ⟨h.t.far (Ne.symm nt) _ _, h.res.far (Ne.symm nr) _ _, h.p.move (fun k hk => Below.heap_setCell _ _ _ _ (fun e => h.sep k hk (.inr (by have e' : k = gC.getD r 0 := e; rw [e']; exact getD_mem hr)))), h.c.put hr m x hm, h.sep, h.below.setCell (h.c.blk r hr).2.2 _⟩
end

theorem mk_nums (n : Nat) : Obj.cells (madeCells #[.int .i64 0] n) 3 = Obj.cells (nums (List.replicate n 0)).toArray 3 := by
  congr 1
  apply Array.ext'
  simp [madeCells, nums]
  apply List.ext_getElem
  · simp
  · intro i h1 h2
    simp [Nat.mod_one]

theorem news_one (W : World) (h1 : Nat) (v : Value) (t : TypeId) (hh : W.heap.size = h1) : ∀ (j : Nat) (u : Value), [v][j]? = some u → (W.alloc (.cells #[v] t)).cell? ((⟨h1, 0, none⟩ : Addr).add j) = some u := by
  intro j u h
  subst hh
  match j, h with
  | 0, h => simp at h; subst h; exact World.cell?_alloc_at _ _ _ _ rfl

theorem rowsK_length_le (f : Nat → Nat) (n k : Nat) (hn : 1 ≤ n) : (rowsK f n k).length ≤ k := by
  unfold rowsK
  rw [List.length_map, List.length_range, div_up n k hn]
  split
  · exact Nat.div_le_self _ _
  · rename_i h0
    have h := Nat.div_add_mod k n
    have : k / n ≤ n * (k / n) := Nat.le_mul_of_pos_left _ (by omega)
    omega

end Go.Proofs.Ytmoemalkojckaaa.J
