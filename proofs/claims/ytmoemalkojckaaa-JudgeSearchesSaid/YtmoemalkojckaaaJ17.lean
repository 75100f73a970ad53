import Derived.Test.YtmoemalkojckaaaProg
import Derived.Below
import Derived.Deep.Draws
import Derived.Deep.AppendLies
import Derived.OwnWalk
import Derived.Laws.MakeOwn
import Derived.Laws.OwnMore
import Derived.Deep.OwnRows
import Derived.Tactics
import Derived.Laws.Slices
import Derived.WalkKit
import Derived.KernelRfl
import Derived.RowKit3
import Derived.Deep.LoopGhost
import Derived.Deep.QuietTactic
import Derived.BigQuiet
import Derived.Deep.DeepCutAuto
import Derived.Deep.CutBlock
import Derived.Deep.RegionHeld3
import Derived.Laws.Rows
import Derived.Laws.BitsLemmas
import Derived.RowKit
import Derived.Lib.Hide
import Derived.WalkLawsBesides
import Derived.WalkSpells
import Derived.Deep.DeepFit
import Derived.Test.YtmoemalkojckaaaJ16
namespace Go.Proofs.Ytmoemalkojckaaa.J
open Go.RowKit
set_option linter.unusedVariables false
set_option linter.unusedSimpArgs false

theorem info70 : (Try.prog.info? 70).map (fun i => (i.zero, i.size, i.bytes)) = some (some (.slice none 0 0), 1, 24) := by kernel_rfl

/-- A slice of pairs whose cells are known. -/
def PairsAt (wr : World) (lo : Nat) (v : Value) (l : List (Nat × Nat)) : Prop :=
  ∃ g cap, lo ≤ g ∧ v = .slice (some ⟨g, 0, none⟩) l.length cap ∧ ∀ x, x < l.length → wr.cell? ⟨g, x * 2, none⟩ = some (.int .i64 ((l.getD x (0, 0)).1 : Nat)) ∧ wr.cell? ⟨g, x * 2 + 1, none⟩ = some (.int .i64 ((l.getD x (0, 0)).2 : Nat))
theorem flatP_get : ∀ (l : List (Nat × Nat)) (x : Nat), x < l.length → (flatP l)[x * 2]? = some (.int .i64 ((l.getD x (0, 0)).1 : Nat)) ∧ (flatP l)[x * 2 + 1]? = some (.int .i64 ((l.getD x (0, 0)).2 : Nat)) := by
  intro l
  induction l with
  | nil => intro x h; simp at h
  | cons a l ih =>
    intro x h
    have e : flatP (a :: l) = .int .i64 (a.1 : Int) :: .int .i64 (a.2 : Int) :: flatP l := rfl
    cases x with
    | zero => rw [e]; exact ⟨rfl, rfl⟩
    | succ x =>
      rw [e, show (x + 1) * 2 = x * 2 + 1 + 1 by omega]
      have := ih x (by simpa using h)
      simp only [List.getElem?_cons_succ]
      simpa using this
theorem PR.pairs {W wr : World} {b : Bool} {v : Value} (h : PR W wr b 32 v) : PairsAt wr W.heap.size v (prs b 32) := by
  have hpos : 0 < (prs b 32).length := by rw [prs32]; split <;> omega
  rcases h.own.2 with ⟨_, h0⟩ | ⟨g, cap, cur, rfl, hg, hh, _⟩
  · omega
  · refine ⟨g, cap, hg, rfl, fun x hx => ?_⟩
    obtain ⟨h1, h2⟩ := flatP_get _ x hx
    have c1 := h.own.cells (g := g) rfl _ _ h1
    have c2 := h.own.cells (g := g) rfl _ _ h2
    refine ⟨?_, by simpa [Addr.add] using c2⟩
    by_cases e : x = 0
    · subst e; simpa [Addr.add] using c1
    · have e2 : x * 2 ≠ 0 := by omega
      simpa [Addr.add, e, e2] using c1
theorem PairsAt.same {wr w' : World} {lo : Nat} {v : Value} {l : List (Nat × Nat)} (h : PairsAt wr lo v l) (hpos : 0 < l.length) (hs : ∀ k o, lo ≤ k → k < wr.heap.size → w'.cell? ⟨k, o, none⟩ = wr.cell? ⟨k, o, none⟩) : PairsAt w' lo v l := by
  obtain ⟨g, cap, h1, h2, h3⟩ := h
  have hg : g < wr.heap.size := World.block_lt_of_cell? wr _ (h3 0 hpos).1
  exact ⟨g, cap, h1, h2, fun x hx => by rw [hs g _ h1 hg, hs g _ h1 hg]; exact h3 x hx⟩

/-- 'choices' while it is filled: d entries are there. -/
structure L1 (W wr : World) (n R L d : Nat) (vs : List Value) : Prop where
  res : Blk wr W.heap.size [.int .i64 0, .int .i64 0, .int .i64 0] 37
  len : vs.length = n * R
  cho : Blk wr (W.heap.size + 1) vs 70
  row : ∀ i, i < d → PairsAt wr (W.heap.size + 2) (vs.getD i undef) (prs (decide (i % n < L)) 32)
  below : Below W.heap.size W wr

theorem prs_pos (b : Bool) : 0 < (prs b 32).length := by rw [prs32]; split <;> omega
theorem vget {l : List Value} {i : Nat} (h : i < l.length) : l[i]? = some (l.getD i undef) := by simp [List.getD, h]

theorem L1.next {W wr w1 : World} {n R L d : Nat} {vs : List Value} {v : Value} (h : L1 W wr n R L d vs) (hd : d < n * R) (hP : PR wr w1 (decide (d % n < L)) 32 v) :
    L1 W (w1.setCell ⟨W.heap.size + 1, d, none⟩ v) n R L (d + 1) (vs.set d v) := by
  have hb := h.below.size
  have hc := h.cho.lt
  have hch := h.cho.below hP.below hc
  have hre := h.res.below hP.below (by omega)
  refine ⟨hre.far (by omega) _ _, by rw [List.length_set]; exact h.len, hch.set d v, fun i hi => ?_, (h.below.trans (hP.below.mono hb)).setCell (by simp) _⟩
  have far : ∀ k o, W.heap.size + 2 ≤ k → (w1.setCell ⟨W.heap.size + 1, d, none⟩ v).cell? ⟨k, o, none⟩ = w1.cell? ⟨k, o, none⟩ := fun k o hk => World.cell?_of_block (Below.heap_setCell _ _ _ _ (by show k ≠ W.heap.size + 1; omega))
  by_cases e : i = d
  · subst e
    have e1 : (vs.set i v).getD i undef = v := by
      have : i < vs.length := by rw [h.len]; exact hd
      simp [List.getD, this]
    rw [e1]
    obtain ⟨g, cap, h1, h2, h3⟩ := hP.pairs
    exact ⟨g, cap, by omega, h2, fun x hx => by rw [far g _ (by omega), far g _ (by omega)]; exact h3 x hx⟩
  · have e1 : (vs.set d v).getD i undef = vs.getD i undef := by simp [List.getD, List.getElem?_set_ne (Ne.symm e)]
    rw [e1]
    refine (h.row i (by omega)).same (prs_pos _) (fun k o hk hk2 => ?_)
    rw [far k o hk]
    exact hP.below.cell (p := ⟨k, o, none⟩) hk2

theorem L1.cell {W wr : World} {n R L d : Nat} {vs : List Value} (h : L1 W wr n R L d vs) {i : Nat} (hi : i < d) (hd : d ≤ n * R) : ∃ g cap, wr.cell? ⟨W.heap.size + 1, i, none⟩ = some (.slice (some ⟨g, 0, none⟩) (prs (decide (i % n < L)) 32).length cap) := by
  obtain ⟨g, cap, _, h2, _⟩ := h.row i hi
  refine ⟨g, cap, ?_⟩
  rw [← h2]
  exact h.cho.cell i (vget (by rw [h.len]; omega))

/-- What 'Search' has when it goes through the tables. -/
structure SI (W wr : World) (B n R L : Nat) (ds : List Nat) (f : Nat) (l : Int) : Prop where
  lo : W.heap.size + 1 < B
  res : Blk wr W.heap.size [.int .i64 0, .int .i64 0, .int .i64 0] 37
  dig : Blk wr B (nums ds) 3
  cho : ChoAt wr B (W.heap.size + 1) (chs n R L)
  fnd : Blk wr (B + 1) [.int .i64 (prodK n R L (n * R) : Nat), .int .i64 (f : Nat), .int .i64 l] 37
  below : Below W.heap.size W wr

section
variable {W wr w' : World} {B n R L : Nat} {ds ds' : List Nat} {f : Nat} {l : Int}
theorem SI.keep (h : SI W wr B n R L ds f l) (hb : Below wr.heap.size wr w') : SI W w' B n R L ds f l := by
  have hB := h.dig.lt
  have hF := h.fnd.lt
  have hlo := h.lo
  have hW := h.below.size
  exact ⟨hlo, h.res.below hb (by omega), h.dig.below hb hB, h.cho.same (fun k o hk => hb.cell (p := ⟨k, o, none⟩) (by show k < wr.heap.size; omega)), h.fnd.below hb hF, h.below.trans (hb.mono hW)⟩
theorem SI.setF (h : SI W wr B n R L ds f l) (f' : Nat) : SI W (wr.setCell ⟨B + 1, 1, none⟩ (.int .i64 (f' : Int))) B n R L ds f' l := by
  have hlo := h.lo
  refine ⟨hlo, h.res.far (by omega) _ _, h.dig.far (by omega) _ _, h.cho.same (fun k o hk => World.cell?_of_block (Below.heap_setCell _ _ _ _ (by show k ≠ B + 1; omega))), ?_, h.below.setCell (by show _ ≤ B + 1; omega) _⟩
  have := h.fnd.set 1 (.int .i64 (f' : Int))
  exact this
theorem SI.setL (h : SI W wr B n R L ds f l) (l' : Int) : SI W (wr.setCell ⟨B + 1, 2, none⟩ (.int .i64 l')) B n R L ds f l' := by
  have hlo := h.lo
  refine ⟨hlo, h.res.far (by omega) _ _, h.dig.far (by omega) _ _, h.cho.same (fun k o hk => World.cell?_of_block (Below.heap_setCell _ _ _ _ (by show k ≠ B + 1; omega))), ?_, h.below.setCell (by show _ ≤ B + 1; omega) _⟩
  have := h.fnd.set 2 (.int .i64 l')
  exact this
theorem SI.adv (h : SI W wr B n R L ds f l) (hd : Blk w' B (nums ds') 3) (hg : wr.grownBy w' (some B)) : SI W w' B n R L ds' f l := by
  have hlo := h.lo
  have hB := h.dig.lt
  have hW := h.below.size
  refine ⟨hlo, h.res.grown hg (by simp; omega), hd, h.cho.same (fun k o hk => World.cell?_of_block (hg.block k (by omega) (by simp; omega))), h.fnd.grown hg (by simp), h.below.grown hg hW (fun k hk => by simp at hk; omega)⟩
end

theorem lens_length (cs : List (List (Nat × Nat))) : (lens cs).length = cs.length := by simp [lens]
theorem lens_zero (n R L : Nat) : digs (lens (chs n R L)) 0 = List.replicate (n * R) 0 := by simp [digs, lens_length, chs_length]

theorem L1.done {W wr : World} {n R L : Nat} {vs : List Value} (h : L1 W wr n R L (n * R) vs) (t : Int) (ht : t = (prodK n R L (n * R) : Nat)) :
    SI W ((wr.alloc (.cells (nums (List.replicate (n * R) 0)).toArray 3)).alloc (.cells #[.int .i64 t, .int .i64 0, .int .i64 (-1)] 37)) wr.heap.size n R L (digs (lens (chs n R L)) 0) 0 (-1) := by
  subst ht
  have hb := h.below.size
  have hc := h.cho.lt
  refine ⟨hc, (h.res.alloc _).alloc _, ?_, ⟨hc, fun d hd => ?_⟩, ?_, (h.below.alloc hb _).alloc (by simp; omega) _⟩
  · have := (Blk.new wr (nums (List.replicate (n * R) 0)).toArray 3).alloc (.cells #[.int .i64 (prodK n R L (n * R) : Nat), .int .i64 0, .int .i64 (-1)] 37)
    rw [List.toList_toArray] at this
    rw [lens_zero]; exact this
  · rw [chs_length] at hd
    obtain ⟨g, cap, h1, h2, h3⟩ := h.row d hd
    have hcell := h.cho.cell d (vget (by rw [h.len]; exact hd))
    rw [h2] at hcell
    have hg : g < wr.heap.size := World.block_lt_of_cell? wr _ (h3 0 (prs_pos _)).1
    have far : ∀ k o, k < wr.heap.size → ((wr.alloc (.cells (nums (List.replicate (n * R) 0)).toArray 3)).alloc (.cells #[.int .i64 (prodK n R L (n * R) : Nat), .int .i64 0, .int .i64 (-1)] 37)).cell? ⟨k, o, none⟩ = wr.cell? ⟨k, o, none⟩ := fun k o hk => by
      rw [World.cell?_alloc_past _ _ _ (by simp; omega), World.cell?_alloc_past _ _ _ hk]
    rw [chs_get n R L d hd]
    exact ⟨g, cap, hg, by rw [far _ _ hc]; exact hcell, fun x hx => by rw [far _ _ hg, far _ _ hg]; exact h3 x hx⟩
  · have := Blk.new (wr.alloc (.cells (nums (List.replicate (n * R) 0)).toArray 3)) #[.int .i64 (prodK n R L (n * R) : Nat), .int .i64 0, .int .i64 (-1)] 37
    have e : (wr.alloc (.cells (nums (List.replicate (n * R) 0)).toArray 3)).heap.size = wr.heap.size + 1 := by simp
    rw [e] at this
    exact this

theorem L1.start (W : World) (n R L : Nat) : L1 W ((W.alloc (.cells #[.int .i64 0, .int .i64 0, .int .i64 0] 37)).alloc (.cells (madeCells #[.slice none 0 0] (n * R)) 70)) n R L 0 (madeCells #[.slice none 0 0] (n * R)).toList := by
  refine ⟨(Blk.new W _ 37).alloc _, by simp [madeCells], ?_, fun i hi => by omega, ((Below.refl _ _).alloc (Nat.le_refl _) _).alloc (by simp) _⟩
  have := Blk.new (W.alloc (.cells #[.int .i64 0, .int .i64 0, .int .i64 0] 37)) (madeCells #[.slice none 0 0] (n * R)) 70
  have e : (W.alloc (.cells #[.int .i64 0, .int .i64 0, .int .i64 0] 37)).heap.size = W.heap.size + 1 := by simp
  rw [e] at this
  exact this

/-- The rows that 'table' made, as an argument. -/
theorem Rows2.tab {w : World} {base : Nat} {v : Value} {gs : List Nat} {rows : List (List Nat)} {n : Nat} (h : Rows2 w base v gs rows n) (hpos : 0 < rows.length) :
    ∃ A c, v = .slice A rows.length c ∧ TabAt w A (itab rows) ∧ ∀ r, ((itab rows).getD r []).length ≤ n := by
  have hl := h.len
  obtain ⟨g, cap, e, _⟩ := h.cell (r := 0) (by omega)
  refine ⟨some ⟨g, 0, none⟩, cap, by rw [e, hl], fun r hr => ?_, fun r => ?_⟩
  · rw [itab_length] at hr
    obtain ⟨g2, cap2, e2, hc⟩ := h.cell (r := r) (by omega)
    have : g2 = g := by rw [e] at e2; injection e2 with e3; injection e3 with e4; injection e4 with e5; exact e5.symm
    subst this
    obtain ⟨hb, hn, _⟩ := h.blk r (by omega)
    refine ⟨g2, 0, some ⟨gs.getD r 0, 0, none⟩, n, rfl, ?_, ?_⟩
    · rw [Nat.zero_add, hc, itab_getD, ints_length, hn]; rfl
    · rw [itab_getD]; exact RowAt.blk hb
  · rw [itab_getD, ints_length]
    by_cases hr : r < gs.length
    · exact Nat.le_of_eq (h.blk r hr).2.1
    · have : rows.getD r [] = [] := by rw [List.getD, List.getElem?_eq_none (by omega)]; rfl
      rw [this]; simp

end Go.Proofs.Ytmoemalkojckaaa.J
