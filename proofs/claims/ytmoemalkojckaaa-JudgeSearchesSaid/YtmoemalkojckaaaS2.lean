import Derived.Test.YtmoemalkojckaaaProg
import Derived.Below
import Derived.Deep.Draws
import Derived.Deep.AppendLies
import Derived.OwnWalk
import Derived.Laws.MakeOwn
import Derived.Laws.OwnMore
import Derived.Deep.OwnRows
import Derived.Tactics
import Derived.Laws.Slices
import Derived.WalkKit
import Derived.KernelRfl
import Derived.RowKit3
import Derived.Deep.LoopGhost
import Derived.Deep.QuietTactic
import Derived.BigQuiet
import Derived.Deep.DeepCutAuto
import Derived.Deep.CutBlock
import Derived.Deep.RegionHeld3
import Derived.Laws.Rows
import Derived.Laws.BitsLemmas
import Derived.RowKit
import Derived.Lib.Hide
import Derived.WalkLawsBesides
import Derived.WalkSpells
import Derived.Deep.DeepFit
import Derived.Deep.RegionLaw
import Derived.Test.YtmoemalkojckaaaJ18
import Derived.Test.YtmoemalkojckaaaS1
import Derived.Test.YtmoemalkojckaaaR5
namespace Go.Proofs.Ytmoemalkojckaaa.J
open Go.RowKit
set_option linter.unusedVariables false
set_option linter.unusedSimpArgs false

/-! ### the reference's table in memory -/
abbrev Fx := List (Nat × List Value × TypeId)
structure RT (W wr : World) (bt n : Nat) (fx : Fx) (rP rC : List (List Nat)) (vP vC : Value) (gP gC : List Nat) : Prop where
  t : Blk wr bt [vP, vC] 28
  tb : W.heap.size ≤ bt
  fx : ∀ x ∈ fx, Blk wr x.1 x.2.1 x.2.2 ∧ x.1 ≠ bt ∧ W.heap.size ≤ x.1 ∧ (45 : TypeId) ≠ x.2.2 ∧ (3 : TypeId) ≠ x.2.2
  p : Rows2 wr W.heap.size vP gP rP n
  c : Rows2 wr W.heap.size vC gC rC n
  sep : ∀ b, Foot vP gP b → Foot vC gC b → False
  below : Below W.heap.size W wr

section
variable {W wr w1 : World} {bt n : Nat} {fx : Fx} {rP rC : List (List Nat)} {vP vC : Value} {gP gC : List Nat} {o2 : Obj} {g cap : Nat}
theorem RT.growP (h : RT W wr bt n fx rP rC vP vC gP gC)
    (hown : w1.ownsRow W.heap.size 45 1 (.slice (some ⟨g, 0, none⟩) (gP.length + 1) cap) (gP.length + 1) (gP.map (slv n) ++ [slv n wr.heap.size]))
    (hg : ((wr.alloc (.cells (nums (List.replicate n 0)).toArray 3)).alloc o2).drew.grownBy w1 vP.ownBlock) (hat : vP.ownBlock = some g ∨ g = wr.heap.size + 2) :
    RT W (w1.setCell ⟨bt, 0, none⟩ (.slice (some ⟨g, 0, none⟩) (gP.length + 1) cap)) bt n fx (rP ++ [List.replicate n 0]) rC (.slice (some ⟨g, 0, none⟩) (gP.length + 1) cap) vC (gP ++ [wr.heap.size]) gC := by
  have hg := grown_undrew hg
  have hb := h.below.size
  have hP := h.p.grow hb hown hg
  have aP := own_ne h.p.own h.t (by decide)
  have ht1 : Blk w1 bt [vP, vC] 28 := ((h.t.alloc _).alloc _).grown hg (Ne.symm aP)
  have hold : ∀ k, k < wr.heap.size → some k ≠ vP.ownBlock → w1.heap[k]? = wr.heap[k]? := fun k hk hne => by
    rw [hg.block k (by simp; omega) hne, Below.heap_alloc _ _ _ (by simp; omega), Below.heap_alloc _ _ _ hk]
  have hC : Rows2 w1 W.heap.size vC gC rC n := h.c.move fun k hk => hold k (h.c.lt hk).2 (fun e => h.sep k (.inl e.symm) hk)
  have nP := hP.not ht1 (by decide) (by decide)
  have nC := hC.not ht1 (by decide) (by decide)
  refine ⟨?_, h.tb, fun x hx => ?_, hP.move (fun k hk => Below.heap_setCell _ _ _ _ (fun e => nP (by have e' : k = bt := e; rw [← e']; exact hk))), hC.move (fun k hk => Below.heap_setCell _ _ _ _ (fun e => nC (by have e' : k = bt := e; rw [← e']; exact hk))), fun b hb1 hb2 => ?_, ?_⟩
  · simpa using ht1.set 0 (.slice (some ⟨g, 0, none⟩) (gP.length + 1) cap)
  · obtain ⟨f1, f2, f3, f4, f5⟩ := h.fx x hx
    exact ⟨(((f1.alloc _).alloc _).grown hg (fun e => own_ne h.p.own f1 f4 e.symm)).far f2 _ _, f2, f3, f4, f5⟩
  · have lt2 := (h.c.lt hb2).2
    rcases hb1 with hb1 | hb1
    · have e : g = b := by simpa [Value.ownBlock] using hb1
      subst e
      rcases hat with hat | hat
      · exact h.sep g (.inl hat) hb2
      · omega
    · rcases List.mem_append.1 hb1 with hb1 | hb1
      · exact h.sep b (.inr hb1) hb2
      · simp at hb1; omega
  · exact ((((h.below.alloc hb _).alloc (by simp; omega) _).grown hg (by simp; omega) (fun k hk => (h.p.own.lt k hk).1))).setCell h.tb _
theorem RT.growC (h : RT W wr bt n fx rP rC vP vC gP gC)
    (hown : w1.ownsRow W.heap.size 45 1 (.slice (some ⟨g, 0, none⟩) (gC.length + 1) cap) (gC.length + 1) (gC.map (slv n) ++ [slv n wr.heap.size]))
    (hg : ((wr.alloc (.cells (nums (List.replicate n 0)).toArray 3)).alloc o2).drew.grownBy w1 vC.ownBlock) (hat : vC.ownBlock = some g ∨ g = wr.heap.size + 2) :
    RT W (w1.setCell ⟨bt, 1, none⟩ (.slice (some ⟨g, 0, none⟩) (gC.length + 1) cap)) bt n fx rP (rC ++ [List.replicate n 0]) vP (.slice (some ⟨g, 0, none⟩) (gC.length + 1) cap) gP (gC ++ [wr.heap.size]) := by
  have hg := grown_undrew hg
  have hb := h.below.size
  have hC := h.c.grow hb hown hg
  have aP := own_ne h.c.own h.t (by decide)
  have ht1 : Blk w1 bt [vP, vC] 28 := ((h.t.alloc _).alloc _).grown hg (Ne.symm aP)
  have hold : ∀ k, k < wr.heap.size → some k ≠ vC.ownBlock → w1.heap[k]? = wr.heap[k]? := fun k hk hne => by
    rw [hg.block k (by simp; omega) hne, Below.heap_alloc _ _ _ (by simp; omega), Below.heap_alloc _ _ _ hk]
  have hP : Rows2 w1 W.heap.size vP gP rP n := h.p.move fun k hk => hold k (h.p.lt hk).2 (fun e => h.sep k hk (.inl e.symm))
  have nP := hP.not ht1 (by decide) (by decide)
  have nC := hC.not ht1 (by decide) (by decide)
  refine ⟨?_, h.tb, fun x hx => ?_, hP.move (fun k hk => Below.heap_setCell _ _ _ _ (fun e => nP (by have e' : k = bt := e; rw [← e']; exact hk))), hC.move (fun k hk => Below.heap_setCell _ _ _ _ (fun e => nC (by have e' : k = bt := e; rw [← e']; exact hk))), fun b hb2 hb1 => ?_, ?_⟩
  · simpa using ht1.set 1 (.slice (some ⟨g, 0, none⟩) (gC.length + 1) cap)
  · obtain ⟨f1, f2, f3, f4, f5⟩ := h.fx x hx
    exact ⟨(((f1.alloc _).alloc _).grown hg (fun e => own_ne h.c.own f1 f4 e.symm)).far f2 _ _, f2, f3, f4, f5⟩
  · have lt2 := (h.p.lt hb2).2
    rcases hb1 with hb1 | hb1
    · have e : g = b := by simpa [Value.ownBlock] using hb1
      subst e
      rcases hat with hat | hat
      · exact h.sep g hb2 (.inl hat)
      · omega
    · rcases List.mem_append.1 hb1 with hb1 | hb1
      · exact h.sep b hb2 (.inr hb1)
      · simp at hb1; omega
  · exact ((((h.below.alloc hb _).alloc (by simp; omega) _).grown hg (by simp; omega) (fun k hk => (h.c.own.lt k hk).1))).setCell h.tb _
theorem RT.putP (h : RT W wr bt n fx rP rC vP vC gP gC) {r m x : Nat} (hr : r < gP.length) (hm : m < n) :
    RT W (wr.setCell ⟨gP.getD r 0, m, none⟩ (.int .i64 (x : Int))) bt n fx (rP.set r ((rP.getD r []).set m x)) rC vP vC gP gC := by
  have nt := blk_ne (h.p.blk r hr).1 h.t (by decide)
  refine ⟨h.t.far (Ne.symm nt) _ _, h.tb, fun y hy => ?_, h.p.put hr m x hm, h.c.move (fun k hk => Below.heap_setCell _ _ _ _ (fun e => h.sep k (.inr (by have e' : k = gP.getD r 0 := e; rw [e']; exact getD_mem hr)) hk)), h.sep, h.below.setCell (h.p.blk r hr).2.2 _⟩
  obtain ⟨f1, f2, f3, f4, f5⟩ := h.fx y hy
  exact ⟨f1.far (Ne.symm (blk_ne (h.p.blk r hr).1 f1 f5)) _ _, f2, f3, f4, f5⟩
theorem RT.putC (h : RT W wr bt n fx rP rC vP vC gP gC) {r m x : Nat} (hr : r < gC.length) (hm : m < n) :
    RT W (wr.setCell ⟨gC.getD r 0, m, none⟩ (.int .i64 (x : Int))) bt n fx rP (rC.set r ((rC.getD r []).set m x)) vP vC gP gC := by
  have nt := blk_ne (h.c.blk r hr).1 h.t (by decide)
  refine ⟨h.t.far (Ne.symm nt) _ _, h.tb, fun y hy => ?_, h.p.move (fun k hk => Below.heap_setCell _ _ _ _ (fun e => h.sep k hk (.inr (by have e' : k = gC.getD r 0 := e; rw [e']; exact getD_mem hr)))), h.c.put hr m x hm, h.sep, h.below.setCell (h.c.blk r hr).2.2 _⟩
  obtain ⟨f1, f2, f3, f4, f5⟩ := h.fx y hy
  exact ⟨f1.far (Ne.symm (blk_ne (h.c.blk r hr).1 f1 f5)) _ _, f2, f3, f4, f5⟩
theorem RT.drew (h : RT W wr bt n fx rP rC vP vC gP gC) : RT W wr.drew bt n fx rP rC vP vC gP gC :=
  ⟨h.t, h.tb, h.fx, h.p.move (fun _ _ => rfl), h.c.move (fun _ _ => rfl), h.sep, h.below.drew⟩
theorem RT.keep (h : RT W wr bt n fx rP rC vP vC gP gC) (hb : Below wr.heap.size wr w1) : RT W w1 bt n fx rP rC vP vC gP gC :=
  ⟨h.t.below hb h.t.lt, h.tb, fun x hx => by obtain ⟨f1, f⟩ := h.fx x hx; exact ⟨f1.below hb f1.lt, f⟩, h.p.move (fun k hk => hb.block k (h.p.lt hk).2), h.c.move (fun k hk => hb.block k (h.c.lt hk).2), h.sep, h.below.trans (hb.mono h.below.size)⟩
/-- A store into a fixed block. -/
theorem RT.setF {b : Nat} {vs : List Value} {ty : TypeId} (h : RT W wr bt n ((b, vs, ty) :: fx) rP rC vP vC gP gC) (i : Nat) (v : Value) (hd : ∀ x ∈ fx, x.1 ≠ b) : RT W (wr.setCell ⟨b, i, none⟩ v) bt n ((b, vs.set i v, ty) :: fx) rP rC vP vC gP gC := by
  obtain ⟨f1, f2, f3, f4, f5⟩ := h.fx (b, vs, ty) (by simp)
  have nP := h.p.not f1 f4 f5
  have nC := h.c.not f1 f4 f5
  refine ⟨h.t.far (Ne.symm f2) _ _, h.tb, fun x hx => ?_, h.p.move (fun k hk => Below.heap_setCell _ _ _ _ (fun e => nP (by have e' : k = b := e; rw [← e']; exact hk))), h.c.move (fun k hk => Below.heap_setCell _ _ _ _ (fun e => nC (by have e' : k = b := e; rw [← e']; exact hk))), h.sep, h.below.setCell f3 _⟩
  rcases List.mem_cons.1 hx with rfl | hx
  · exact ⟨f1.set i v, f2, f3, f4, f5⟩
  · obtain ⟨g1, g2, g3, g4, g5⟩ := h.fx x (by simp [hx])
    exact ⟨g1.far (hd x hx) _ _, g2, g3, g4, g5⟩
/-- A new fixed block. -/
theorem RT.addF (h : RT W wr bt n fx rP rC vP vC gP gC) (vs : List Value) (ty : TypeId) (h4 : (45 : TypeId) ≠ ty) (h3 : (3 : TypeId) ≠ ty) : RT W (wr.alloc (.cells vs.toArray ty)) bt n ((wr.heap.size, vs, ty) :: fx) rP rC vP vC gP gC := by
  have k := h.keep (w1 := wr.alloc (.cells vs.toArray ty)) ((Below.refl _ _).alloc (Nat.le_refl _) _)
  refine ⟨k.t, k.tb, fun x hx => ?_, k.p, k.c, k.sep, k.below⟩
  rcases List.mem_cons.1 hx with rfl | hx
  · exact ⟨by have := Blk.new wr vs.toArray ty; rwa [List.toList_toArray] at this, by have := h.t.lt; show wr.heap.size ≠ bt; omega, h.below.size, h4, h3⟩
  · exact k.fx x hx
end

/-- R rows of n entries. -/
def matF (u : Nat → Nat) (n R : Nat) : List (List Nat) := (List.range R).map fun r => (List.range n).map fun m => u (r * n + m)
theorem matF_zero (n R : Nat) : matF (fun _ => 0) n R = List.replicate R (List.replicate n 0) := by
  unfold matF
  rw [List.map_const', List.map_const', List.length_range, List.length_range]
theorem matF_snoc (n R : Nat) : matF (fun _ => 0) n (R + 1) = matF (fun _ => 0) n R ++ [List.replicate n 0] := by
  rw [matF_zero, matF_zero, List.replicate_succ']
theorem matF_length (u : Nat → Nat) (n R : Nat) : (matF u n R).length = R := by simp [matF]
theorem matF_get (u : Nat → Nat) (n R r : Nat) (h : r < R) : (matF u n R).getD r [] = (List.range n).map fun m => u (r * n + m) := by simp [matF, List.getD, h]
theorem slot_eq {n r m r' m' : Nat} (hm : m < n) (hm' : m' < n) (h : r * n + m = r' * n + m') : r = r' ∧ m = m' := by
  have a1 : (r * n + m) / n = r := by rw [Nat.mul_comm, Nat.mul_add_div (by omega), Nat.div_eq_of_lt hm]; rfl
  have a2 : (r' * n + m') / n = r' := by rw [Nat.mul_comm, Nat.mul_add_div (by omega), Nat.div_eq_of_lt hm']; rfl
  rw [h, a2] at a1
  subst a1
  exact ⟨rfl, by omega⟩
theorem matF_set (u : Nat → Nat) (n R r m x : Nat) (hr : r < R) (hm : m < n) :
    (matF u n R).set r (((matF u n R).getD r []).set m x) = matF (fun d => if d = r * n + m then x else u d) n R := by
  rw [matF_get u n R r hr]
  apply List.ext_getElem
  · simp [matF]
  · intro i h1 h2
    have hi : i < R := by simpa [matF] using h2
    rw [List.getElem_set]
    by_cases e : r = i
    · subst e
      rw [if_pos rfl]
      simp only [matF, List.getElem_map, List.getElem_range]
      apply List.ext_getElem
      · simp
      · intro j g1 g2
        have hj : j < n := by simpa using g2
        rw [List.getElem_set]
        simp only [List.getElem_map, List.getElem_range]
        by_cases e2 : m = j
        · subst e2; simp
        · rw [if_neg e2, if_neg (fun h => e2 (by omega))]
    · rw [if_neg e]
      simp only [matF, List.getElem_map, List.getElem_range]
      refine List.map_congr_left fun j hj => ?_
      have hj' := List.mem_range.1 hj
      rw [if_neg (fun h => e (slot_eq hj' hm h).1.symm)]
theorem matF_full (u f : Nat → Nat) (n R : Nat) (hn : 1 ≤ n) (h : ∀ d, d < n * R → u d = f d) : matF u n R = rowsK f n (n * R) := by
  unfold matF rowsK
  rw [div_up n (n * R) hn, Nat.mul_mod_right, if_pos rfl, Nat.mul_div_cancel_left _ (by omega)]
  refine List.map_congr_left fun r hr => List.map_congr_left fun m hm => ?_
  have hr' := List.mem_range.1 hr
  have hm' := List.mem_range.1 hm
  have : r * n + m < n * R := by
    have : (r + 1) * n ≤ R * n := Nat.mul_le_mul_right n hr'
    rw [Nat.mul_comm n R]
    rw [Nat.succ_mul] at this
    omega
  rw [if_pos this]
  exact h _ this

/-! ### the digits of a number -/
def xAt (ls : List Nat) (k : Nat) : Nat → Nat
  | 0 => k
  | i + 1 => xAt ls k i / ls.getD i 0
theorem mr_get : ∀ (ls : List Nat) (k i : Nat), i < ls.length → (mr ls k).getD i 0 = xAt ls k i % ls.getD i 0 := by
  intro ls
  induction ls with
  | nil => intro k i h; simp at h
  | cons l ls ih =>
    intro k i h
    have hx : ∀ i, xAt (l :: ls) k (i + 1) = xAt ls (k / l) i := by
      intro i
      induction i with
      | zero => simp [xAt]
      | succ i ih2 =>
        rw [xAt, ih2]
        simp [xAt]
    cases i with
    | zero => simp [mr, xAt, List.getD]
    | succ i =>
      have := ih (k / l) i (by simpa using h)
      rw [hx i]
      simpa [mr, List.getD] using this

/-- What the reference writes at place i of table k. -/
def rent (b : Bool) (x : Nat) : Nat × Nat := if b then (x % 4, x / 4 % 8) else (honL.getD (x % 3) 0, honL.getD (x / 3 % 4) 0)
theorem rprs_get (b : Bool) (x : Nat) : (rprs b).getD (x % (prs b 32).length) (0, 0) = rent b x := by
  rw [prs32]
  cases b
  · have h : x % 12 < 12 := Nat.mod_lt _ (by omega)
    have e1 : x % 12 % 3 = x % 3 := by omega
    have e2 : x % 12 / 3 = x / 3 % 4 := by omega
    simp [rprs, rent, List.getD, h, e1, e2]
  · have h : x % 32 < 32 := Nat.mod_lt _ (by omega)
    have e1 : x % 32 % 4 = x % 4 := by omega
    have e2 : x % 32 / 4 = x / 4 % 8 := by omega
    simp [rprs, rent, List.getD, h, e1, e2]
theorem rpick (n R L k i : Nat) (h : i < n * R) : pickP (rchs n R L) (digs (lens (rchs n R L)) k) i = rent (decide (i % n < L)) (xAt (lens (rchs n R L)) k i) := by
  have hp : ∀ l ∈ lens (rchs n R L), 1 ≤ l := by rw [rchs_lens]; exact lens_pos n R L
  unfold pickP
  rw [digs_mr _ hp, mr_get _ _ _ (by rw [lens_len, rchs_length]; exact h), lens_get]
  have e : (rchs n R L).getD i [] = rprs (decide (i % n < L)) := by simp [rchs, List.getD, h]
  rw [e, rprs_length]
  exact rprs_get _ _
theorem rlen (n R L i : Nat) (h : i < n * R) : (lens (rchs n R L)).getD i 0 = if decide (i % n < L) = true then 32 else 12 := by
  rw [lens_get]
  have e : (rchs n R L).getD i [] = rprs (decide (i % n < L)) := by simp [rchs, List.getD, h]
  rw [e, rprs_length, prs32]

end Go.Proofs.Ytmoemalkojckaaa.J
