import Derived.Test.YtmoemalkojckaaaProg
import Derived.Below
import Derived.Deep.Draws
import Derived.Deep.AppendLies
import Derived.OwnWalk
import Derived.Laws.MakeOwn
import Derived.Laws.OwnMore
import Derived.Deep.OwnRows
import Derived.Tactics
import Derived.Laws.Slices
import Derived.WalkKit
import Derived.KernelRfl
import Derived.RowKit3
import Derived.Deep.LoopGhost
import Derived.Deep.QuietTactic
import Derived.BigQuiet
import Derived.Deep.DeepCutAuto
import Derived.Deep.CutBlock
import Derived.Deep.RegionHeld3
import Derived.Laws.Rows
import Derived.Laws.BitsLemmas
import Derived.RowKit
import Derived.Lib.Hide
import Derived.WalkLawsBesides
import Derived.WalkSpells
import Derived.Deep.DeepFit
import Derived.Test.YtmoemalkojckaaaJ19
namespace Go.Proofs.Ytmoemalkojckaaa.J
open Go.RowKit
set_option linter.unusedVariables false
set_option linter.unusedSimpArgs false

/-! ### the reference's enumeration: the same tables in another order -/
def honL : List Nat := [0, 1, 2, 4]
def rprs (liar : Bool) : List (Nat × Nat) := if liar then (List.range 32).map fun t => (t % 4, t / 4) else (List.range 12).map fun t => (honL.getD (t % 3) 0, honL.getD (t / 3) 0)
theorem rprs_perm (b : Bool) : (rprs b).Perm (prs b 32) := by
  rw [← List.isPerm_iff]
  cases b <;> decide +kernel
def rchs (n R L : Nat) : List (List (Nat × Nat)) := (List.range (n * R)).map fun d => rprs (decide (d % n < L))
theorem rprs_length (b : Bool) : (rprs b).length = (prs b 32).length := (rprs_perm b).length_eq
theorem rchs_lens (n R L : Nat) : lens (rchs n R L) = lens (chs n R L) := by
  unfold lens rchs chs
  rw [List.map_map, List.map_map]
  exact List.map_congr_left fun d _ => rprs_length _

def prodEnum : List (List (Nat × Nat)) → List (List (Nat × Nat))
  | [] => [[]]
  | c :: cs => (prodEnum cs).flatMap fun t => c.map fun p => p :: t
def picksOf : List (List (Nat × Nat)) → List Nat → List (Nat × Nat)
  | c :: cs, d :: ds => c.getD d (0, 0) :: picksOf cs ds
  | _, _ => []

theorem range_mul {α : Type} (l : Nat) (m : Nat) (f : Nat → α) : (List.range (l * m)).map f = (List.range m).flatMap fun q => (List.range l).map fun d => f (l * q + d) := by
  induction m with
  | zero => simp
  | succ m ih =>
    rw [Nat.mul_succ, List.range_add, List.map_append, ih, List.range_succ, List.flatMap_append]
    simp [List.map_map, Function.comp_def]
theorem range_getD {α : Type} (l : List α) (d : α) : (List.range l.length).map (fun i => l.getD i d) = l := by
  apply List.ext_getElem
  · simp
  · intro i h1 h2
    simp [List.getD, h2]

theorem enum_all : ∀ (cs : List (List (Nat × Nat))), (∀ c ∈ cs, 1 ≤ c.length) → (List.range (prodL (lens cs))).map (fun k => picksOf cs (mr (lens cs) k)) = prodEnum cs := by
  intro cs
  induction cs with
  | nil => intro _; rfl
  | cons c cs ih =>
    intro h
    have hc := h c (by simp)
    have ih' := ih fun x hx => h x (by simp [hx])
    have el : lens (c :: cs) = c.length :: lens cs := rfl
    rw [el, prodL, range_mul]
    show _ = (prodEnum cs).flatMap fun t => c.map fun p => p :: t
    rw [← ih', List.flatMap_map]
    congr 1
    funext q
    have : ∀ d ∈ List.range c.length, picksOf (c :: cs) (mr (c.length :: lens cs) (c.length * q + d)) = c.getD d (0, 0) :: picksOf cs (mr (lens cs) q) := by
      intro d hd
      have hd' := List.mem_range.1 hd
      have e1 : (c.length * q + d) % c.length = d := by rw [Nat.mul_add_mod]; exact Nat.mod_eq_of_lt hd'
      have e2 : (c.length * q + d) / c.length = q := by rw [Nat.mul_add_div (by omega), Nat.div_eq_of_lt hd']; omega
      rw [mr, e1, e2]; rfl
    rw [List.map_congr_left this]
    conv => rhs; rw [← range_getD c (0, 0)]
    rw [List.map_map]
    rfl

theorem flatMap_left {α β : Type} (f g : α → List β) (h : ∀ a, (f a).Perm (g a)) : ∀ l : List α, (l.flatMap f).Perm (l.flatMap g) := by
  intro l
  induction l with
  | nil => exact List.Perm.refl _
  | cons a l ih =>
    rw [List.flatMap_cons, List.flatMap_cons]
    exact (h a).append ih
theorem lens_len (cs : List (List (Nat × Nat))) : (lens cs).length = cs.length := by simp [lens]

theorem enum_perm (f g : Nat → List (Nat × Nat)) (h : ∀ d, (f d).Perm (g d)) : ∀ l : List Nat, (prodEnum (l.map f)).Perm (prodEnum (l.map g)) := by
  intro l
  induction l with
  | nil => exact List.Perm.refl _
  | cons d l ih =>
    show ((prodEnum (l.map f)).flatMap fun t => (f d).map fun p => p :: t).Perm ((prodEnum (l.map g)).flatMap fun t => (g d).map fun p => p :: t)
    exact (List.Perm.flatMap_right _ ih).trans (flatMap_left _ _ (fun t => (h d).map _) _)
theorem enum_same (n R L : Nat) : (prodEnum (rchs n R L)).Perm (prodEnum (chs n R L)) := enum_perm _ _ (fun d => rprs_perm _) _

theorem picks_get : ∀ (cs : List (List (Nat × Nat))) (ds : List Nat), cs.length = ds.length → ∀ d, d < cs.length → (picksOf cs ds).getD d (0, 0) = pickP cs ds d := by
  intro cs
  induction cs with
  | nil => intro ds _ d hd; simp at hd
  | cons c cs ih =>
    intro ds hl d hd
    cases ds with
    | nil => simp at hl
    | cons x ds =>
      cases d with
      | zero => simp [picksOf, pickP, List.getD]
      | succ d =>
        have := ih ds (by simpa using hl) d (by simpa using hd)
        simpa [picksOf, pickP, List.getD] using this

def preL (n N : Nat) (l : List (Nat × Nat)) : List (List Nat) := rowsK (fun d => (l.getD d (0, 0)).1) n N
def comL (n N : Nat) (l : List (Nat × Nat)) : List (List Nat) := rowsK (fun d => (l.getD d (0, 0)).2) n N
theorem rowsK_congr (f g : Nat → Nat) (n N : Nat) (h : ∀ d, d < N → f d = g d) : rowsK f n N = rowsK g n N := by
  unfold rowsK
  refine List.map_congr_left fun r _ => List.map_congr_left fun m _ => ?_
  by_cases e : r * n + m < N
  · rw [if_pos e, if_pos e, h _ e]
  · rw [if_neg e, if_neg e]
theorem preOf_L (n N : Nat) (cs : List (List (Nat × Nat))) (ds : List Nat) (hN : cs.length = N) (hl : cs.length = ds.length) : preOf n N cs ds = preL n N (picksOf cs ds) ∧ comOf n N cs ds = comL n N (picksOf cs ds) := by
  unfold preOf comOf preL comL
  exact ⟨rowsK_congr _ _ _ _ fun d hd => by rw [picks_get cs ds hl d (by omega)], rowsK_congr _ _ _ _ fun d hd => by rw [picks_get cs ds hl d (by omega)]⟩

/-- The tables of an enumeration. -/
def tabs (cs : List (List (Nat × Nat))) : List (List (Nat × Nat)) := (List.range (prodL (lens cs))).map fun k => picksOf cs (digs (lens cs) k)
theorem tabs_enum (cs : List (List (Nat × Nat))) (h : ∀ c ∈ cs, 1 ≤ c.length) : tabs cs = prodEnum cs := by
  rw [← enum_all cs h]
  unfold tabs
  have hp : ∀ l ∈ lens cs, 1 ≤ l := fun l hl => by
    unfold lens at hl
    obtain ⟨c, hc, rfl⟩ := List.mem_map.1 hl
    exact h c hc
  exact List.map_congr_left fun k _ => by rw [digs_mr _ hp]

theorem seek_fst (n N : Nat) (cs : List (List (Nat × Nat))) (ls : List Nat) (k : Nat) : (seek n N cs ls k).1 = (List.range k).countP (forkAt n N cs ls) := by
  induction k with
  | zero => rfl
  | succ k ih =>
    rw [seek_succ, List.range_succ, List.countP_append]
    by_cases h : forkAt n N cs ls k = true
    · rw [if_pos h, ih]
      simp [List.countP_cons, h]
    · rw [if_neg h, ih]
      simp [List.countP_cons, h]

theorem fork_at (n N : Nat) (cs : List (List (Nat × Nat))) (hN : cs.length = N) (k : Nat) :
    forkAt n N cs (lens cs) k = forkB n (preL n N (picksOf cs (digs (lens cs) k))) (comL n N (picksOf cs (digs (lens cs) k))) ∧
    confAt n N cs (lens cs) k = JM.nconf n (preL n N (picksOf cs (digs (lens cs) k))) (comL n N (picksOf cs (digs (lens cs) k))) := by
  unfold forkAt confAt
  obtain ⟨e1, e2⟩ := preOf_L n N cs (digs (lens cs) k) hN (by rw [digs_length, lens_len])
  rw [e1, e2]
  exact ⟨rfl, rfl⟩

theorem seek_count (n N : Nat) (cs : List (List (Nat × Nat))) (hN : cs.length = N) : (seek n N cs (lens cs) (prodL (lens cs))).1 = (tabs cs).countP fun l => forkB n (preL n N l) (comL n N l) := by
  rw [seek_fst]
  unfold tabs
  rw [List.countP_map]
  congr 1
  funext k
  exact (fork_at n N cs hN k).1

theorem seek_least_le (n N : Nat) (cs cs' : List (List (Nat × Nat))) (hN : cs.length = N) (hN' : cs'.length = N) (hm : ∀ l, l ∈ tabs cs → l ∈ tabs cs') (h : 0 < (seek n N cs (lens cs) (prodL (lens cs))).1) (h' : 0 < (seek n N cs' (lens cs') (prodL (lens cs'))).1) :
    (seek n N cs' (lens cs') (prodL (lens cs'))).2 ≤ (seek n N cs (lens cs) (prodL (lens cs))).2 := by
  rcases seek_spec n N cs (lens cs) (prodL (lens cs)) with ⟨_, e⟩ | ⟨_, ⟨j, hj, hf, hc⟩, _⟩
  · rw [e] at h; simp at h
  · rcases seek_spec n N cs' (lens cs') (prodL (lens cs')) with ⟨_, e⟩ | ⟨_, _, hall⟩
    · rw [e] at h'; simp at h'
    · have hmem : picksOf cs (digs (lens cs) j) ∈ tabs cs := List.mem_map.2 ⟨j, List.mem_range.2 hj, rfl⟩
      obtain ⟨j', hj', e⟩ := List.mem_map.1 (hm _ hmem)
      have hj'' := List.mem_range.1 hj'
      obtain ⟨a1, a2⟩ := fork_at n N cs hN j
      obtain ⟨b1, b2⟩ := fork_at n N cs' hN' j'
      rw [e] at b1 b2
      have := hall j' hj'' (by rw [b1, ← a1]; exact hf)
      rw [hc, a2, ← b2]
      exact this

theorem seek_perm (n N : Nat) (cs cs' : List (List (Nat × Nat))) (hN : cs.length = N) (hN' : cs'.length = N) (hp : (tabs cs).Perm (tabs cs')) :
    seek n N cs (lens cs) (prodL (lens cs)) = seek n N cs' (lens cs') (prodL (lens cs')) := by
  have e1 : (seek n N cs (lens cs) (prodL (lens cs))).1 = (seek n N cs' (lens cs') (prodL (lens cs'))).1 := by
    rw [seek_count n N cs hN, seek_count n N cs' hN']
    exact hp.countP_eq _
  refine Prod.ext e1 ?_
  by_cases h : 0 < (seek n N cs (lens cs) (prodL (lens cs))).1
  · have h' : 0 < (seek n N cs' (lens cs') (prodL (lens cs'))).1 := by rw [← e1]; exact h
    exact Int.le_antisymm (seek_least_le n N cs' cs hN' hN (fun l hl => hp.mem_iff.2 hl) h' h) (seek_least_le n N cs cs' hN hN' (fun l hl => hp.mem_iff.1 hl) h h')
  · have h' : ¬ 0 < (seek n N cs' (lens cs') (prodL (lens cs'))).1 := by rw [← e1]; exact h
    rcases seek_spec n N cs (lens cs) (prodL (lens cs)) with ⟨_, e⟩ | ⟨hh, _⟩
    · rcases seek_spec n N cs' (lens cs') (prodL (lens cs')) with ⟨_, e'⟩ | ⟨hh, _⟩
      · rw [e, e']
      · exact absurd hh h'
    · exact absurd hh h

theorem rchs_length (n R L : Nat) : (rchs n R L).length = n * R := by simp [rchs]
/-- The reference finds what the program finds. -/
theorem rseek (n R L : Nat) : seek n (n * R) (rchs n R L) (lens (rchs n R L)) (prodK n R L (n * R)) = seek n (n * R) (chs n R L) (lens (chs n R L)) (prodK n R L (n * R)) := by
  have hc : ∀ c ∈ chs n R L, 1 ≤ c.length := fun c hc => by
    obtain ⟨d, _, rfl⟩ := List.mem_map.1 hc
    exact prs_pos' _
  have hr : ∀ c ∈ rchs n R L, 1 ≤ c.length := fun c hc => by
    obtain ⟨d, _, rfl⟩ := List.mem_map.1 hc
    rw [rprs_length]; exact prs_pos' _
  have h := seek_perm n (n * R) (rchs n R L) (chs n R L) (rchs_length n R L) (chs_length n R L) (by rw [tabs_enum _ hc, tabs_enum _ hr]; exact enum_same n R L)
  have e1 := prodK_lens n R L
  have e2 : prodK n R L (n * R) = prodL (lens (rchs n R L)) := by rw [rchs_lens]; exact e1
  rw [← e2, ← e1] at h
  exact h

end Go.Proofs.Ytmoemalkojckaaa.J
