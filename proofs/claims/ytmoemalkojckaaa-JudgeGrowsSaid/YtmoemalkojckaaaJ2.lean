import Derived.Test.YtmoemalkojckaaaProg
import Derived.Below
import Derived.Deep.Draws
import Derived.Deep.AppendLies
import Derived.OwnWalk
import Derived.Laws.MakeOwn
import Derived.Laws.OwnMore
import Derived.Deep.OwnRows
import Derived.Tactics
import Derived.Laws.Slices
import Derived.WalkKit
import Derived.KernelRfl
import Derived.RowKit3
import Derived.Deep.LoopGhost
import Derived.Deep.QuietTactic
import Derived.BigQuiet
import Derived.Deep.DeepCutAuto
import Derived.Deep.CutBlock
import Derived.Deep.RegionHeld3
import Derived.Laws.Rows
import Derived.Laws.BitsLemmas
import Derived.RowKit
import Derived.Lib.Hide
import Derived.WalkLawsBesides
import Derived.WalkSpells
import Derived.Deep.DeepFit
import Derived.Lib.SliceRun
import Derived.Test.YtmoemalkojckaaaJ1
namespace Go.Proofs.Ytmoemalkojckaaa.J
open Go.RowKit
set_option linter.unusedVariables false
set_option linter.unusedSimpArgs false

/-! ### blocks known whole -/
def nums (l : List Nat) : List Value := l.map fun (x : Nat) => Value.int .i64 (x : Int)
theorem nums_length (l : List Nat) : (nums l).length = l.length := List.length_map ..
theorem nums_get (l : List Nat) (i : Nat) (h : i < l.length) : (nums l)[i]? = some (.int .i64 ((l[i] : Nat) : Int)) := by
  unfold nums
  rw [List.getElem?_map, List.getElem?_eq_getElem h]; rfl
def Blk (w : World) (b : Nat) (vs : List Value) (t : TypeId) : Prop := w.heap[b]? = some (.cells vs.toArray t (0, 0))
section
variable {w w' : World} {b b' : Nat} {vs : List Value} {t : TypeId}
theorem Blk.lt (h : Blk w b vs t) : b < w.heap.size := by
  rcases Nat.lt_or_ge b w.heap.size with h' | h'
  · exact h'
  · unfold Blk at h; rw [Array.getElem?_eq_none h'] at h; cases h
theorem Blk.cell (h : Blk w b vs t) (i : Nat) {v : Value} (hv : vs[i]? = some v) : w.cell? ⟨b, i, none⟩ = some v := by
  unfold Blk at h
  simp only [World.cell?, h, Option.isSome_none, Bool.false_eq_true, if_false]
  simpa using hv
theorem Blk.free (h : Blk w b vs t) (i : Nat) : w.frozen? ⟨b, i, none⟩ = false := by
  unfold Blk at h
  simp [World.frozen?, h]
theorem Blk.set (h : Blk w b vs t) (i : Nat) (v : Value) : Blk (w.setCell ⟨b, i, none⟩ v) b (vs.set i v) t := by
  unfold Blk at h ⊢
  have hb : b < w.heap.size := Blk.lt h
  simp only [World.setCell, Array.getElem?_modify, if_true, h, Option.map_some, Option.isSome_none, Bool.false_eq_true, if_false]
  simp
theorem Blk.far (h : Blk w b vs t) (hne : b ≠ b') (i : Nat) (v : Value) : Blk (w.setCell ⟨b', i, none⟩ v) b vs t := by
  unfold Blk at h ⊢
  rw [Below.heap_setCell _ _ _ _ hne]; exact h
theorem Blk.alloc (h : Blk w b vs t) (o : Obj) : Blk (w.alloc o) b vs t := by
  unfold Blk
  rw [Below.heap_alloc _ _ _ h.lt]; exact h
theorem Blk.new (w : World) (a : Array Value) (t : TypeId) : Blk (w.alloc (.cells a t)) w.heap.size a.toList t := by
  unfold Blk
  rw [heap_alloc_new]
theorem Blk.drewN (h : Blk w b vs t) (n : Nat) : Blk (w.drewN n) b vs t := h
theorem Blk.below {B : Nat} (h : Blk w b vs t) (hB : Below B w w') (hb : b < B) : Blk w' b vs t := by
  unfold Blk
  rw [hB.block b hb]; exact h
theorem Blk.grown {row : Option Nat} (h : Blk w b vs t) (hg : w.grownBy w' row) (hne : some b ≠ row) : Blk w' b vs t := by
  unfold Blk
  rw [hg.block b h.lt hne]; exact h
/-- Some cells of a block are set, from o on. -/
theorem Blk.setCells (us : List Value) : ∀ (w : World) (vs : List Value) (o : Nat), Blk w b vs t → o + us.length ≤ vs.length → Blk (w.setCells b o us) b (vs.take o ++ us ++ vs.drop (o + us.length)) t := by
  induction us with
  | nil => intro w vs o h _; simpa [World.setCells] using h
  | cons u us ih =>
    intro w vs o h hl
    simp only [List.length_cons] at hl
    rw [World.setCells]
    have h2 := ih (w.setCell ⟨b, o, none⟩ u) (vs.set o u) (o + 1) (h.set o u) (by rw [List.length_set]; omega)
    have e : (vs.set o u).take (o + 1) ++ us ++ (vs.set o u).drop (o + 1 + us.length) = vs.take o ++ (u :: us) ++ vs.drop (o + (us.length + 1)) := by
      have e1 : (vs.set o u).take (o + 1) = vs.take o ++ [u] := by
        rw [List.take_succ_eq_append_getElem (by rw [List.length_set]; omega), List.getElem_set_self, List.take_set_of_le (Nat.le_refl _)]
      have e2 : (vs.set o u).drop (o + 1 + us.length) = vs.drop (o + (us.length + 1)) := by
        rw [List.drop_set_of_lt (by omega)]; congr 1; omega
      rw [e1, e2]; simp
    rw [e] at h2
    exact h2
end

theorem grownBy_trans {a b c : World} {row : Option Nat} (h : a.grownBy b row) (k : b.grownBy c row) : a.grownBy c row :=
  ⟨k.os.trans h.os, k.tape.trans h.tape, k.output.trans h.output, Nat.le_trans h.size k.size, fun i hi hne => (k.block i (Nat.lt_of_lt_of_le hi h.size) hne).trans (h.block i hi hne)⟩
theorem grownBy_drewN (w : World) (n : Nat) (row : Option Nat) : w.grownBy (w.drewN n) row := ⟨rfl, rfl, rfl, Nat.le_refl _, fun _ _ _ => rfl⟩
theorem grownBy_setCell (w : World) (b i : Nat) (v : Value) : w.grownBy (w.setCell ⟨b, i, none⟩ v) (some b) :=
  ⟨rfl, rfl, rfl, by simp [World.setCell], fun k _ hk => Below.heap_setCell _ _ _ _ (fun e => hk (by rw [e]))⟩
theorem grownBy_setCells (b : Nat) (us : List Value) : ∀ (w : World) (o : Nat), w.grownBy (w.setCells b o us) (some b) := by
  induction us with
  | nil => intro w o; exact World.grownBy.refl _ _
  | cons u us ih => intro w o; exact grownBy_trans (grownBy_setCell w b o u) (ih _ _)

/-! ### the odometer -/
def adv : List Nat → List Nat → List Nat
  | l :: ls, d :: ds => if d + 1 < l then (d + 1) :: ds else 0 :: adv ls ds
  | _, _ => []
theorem adv_hit : ∀ (ls ds : List Nat) (i : Nat) (hl : ls.length = ds.length) (hi : i < ds.length), (∀ j, j < i → ls.getD j 0 ≤ ds.getD j 0 + 1) → ds.getD i 0 + 1 < ls.getD i 0 →
    adv ls ds = List.replicate i 0 ++ (ds.getD i 0 + 1) :: ds.drop (i + 1) := by
  intro ls
  induction ls with
  | nil => intro ds i hl hi; simp at hl; omega
  | cons l ls ih =>
    intro ds i hl hi h1 h2
    cases ds with
    | nil => simp at hi
    | cons d ds =>
      cases i with
      | zero => simp at h2; simp [adv, h2]
      | succ i =>
        have h0 := h1 0 (by omega)
        simp at h0 h2
        rw [adv, if_neg (by omega), ih ds i (by simpa using hl) (by simpa using hi) (fun j hj => by have := h1 (j + 1) (by omega); simpa using this) (by simpa using h2)]
        simp [List.replicate_succ]
theorem adv_end : ∀ (ls ds : List Nat) (hl : ls.length = ds.length), (∀ j, j < ds.length → ls.getD j 0 ≤ ds.getD j 0 + 1) → adv ls ds = List.replicate ds.length 0 := by
  intro ls
  induction ls with
  | nil => intro ds hl _; cases ds with
    | nil => rfl
    | cons _ _ => simp at hl
  | cons l ls ih =>
    intro ds hl h1
    cases ds with
    | nil => simp at hl
    | cons d ds =>
      have h0 := h1 0 (by simp)
      simp at h0
      rw [adv, if_neg (by omega), ih ds (by simpa using hl) (fun j hj => by have := h1 (j + 1) (by simp; omega); simpa using this)]
      simp [List.replicate_succ]

/-- The rows of pairs that the digits choose from, in blocks below B. -/
def ChoAt (w : World) (B bc : Nat) (cs : List (List (Nat × Nat))) : Prop :=
  bc < B ∧ ∀ d, d < cs.length → ∃ g cap, g < B ∧ w.cell? ⟨bc, d, none⟩ = some (.slice (some ⟨g, 0, none⟩) (cs.getD d []).length cap) ∧
    ∀ x, x < (cs.getD d []).length → w.cell? ⟨g, x * 2, none⟩ = some (.int .i64 (((cs.getD d []).getD x (0, 0)).1 : Nat)) ∧ w.cell? ⟨g, x * 2 + 1, none⟩ = some (.int .i64 (((cs.getD d []).getD x (0, 0)).2 : Nat))
theorem ChoAt.same {w w' : World} {B bc : Nat} {cs : List (List (Nat × Nat))} (h : ChoAt w B bc cs) (hs : ∀ k o, k < B → w'.cell? ⟨k, o, none⟩ = w.cell? ⟨k, o, none⟩) : ChoAt w' B bc cs := by
  refine ⟨h.1, fun d hd => ?_⟩
  obtain ⟨g, cap, h1, h2, h3⟩ := h.2 d hd
  exact ⟨g, cap, h1, by rw [hs bc d h.1]; exact h2, fun x hx => by rw [hs g _ h1, hs g _ h1]; exact h3 x hx⟩

def lens (cs : List (List (Nat × Nat))) : List Nat := cs.map List.length
theorem lens_get (cs : List (List (Nat × Nat))) (d : Nat) : (lens cs).getD d 0 = (cs.getD d []).length := by
  unfold lens
  by_cases h : d < cs.length
  · simp [List.getD, h]
  · simp [List.getD, h]

end Go.Proofs.Ytmoemalkojckaaa.J
