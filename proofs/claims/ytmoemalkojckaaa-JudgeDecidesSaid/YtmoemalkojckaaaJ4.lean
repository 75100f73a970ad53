import Derived.Test.YtmoemalkojckaaaProg
import Derived.Below
import Derived.Deep.Draws
import Derived.Deep.AppendLies
import Derived.OwnWalk
import Derived.Laws.MakeOwn
import Derived.Laws.OwnMore
import Derived.Deep.OwnRows
import Derived.Tactics
import Derived.Laws.Slices
import Derived.WalkKit
import Derived.KernelRfl
import Derived.RowKit3
import Derived.Deep.LoopGhost
import Derived.Deep.QuietTactic
import Derived.BigQuiet
import Derived.Deep.DeepCutAuto
import Derived.Deep.CutBlock
import Derived.Deep.RegionHeld3
import Derived.Laws.Rows
import Derived.Laws.BitsLemmas
import Derived.RowKit
import Derived.Lib.Hide
import Derived.WalkLawsBesides
import Derived.WalkSpells
import Derived.Deep.DeepFit
import Derived.Test.YtmoemalkojckaaaJ3
namespace Go.Proofs.Ytmoemalkojckaaa.J
open Go.RowKit
set_option linter.unusedVariables false
set_option linter.unusedSimpArgs false

/-! ### rows of numbers that the call makes -/
def Foot (v : Value) (gs : List Nat) (k : Nat) : Prop := v.ownBlock = some k ∨ k ∈ gs
def slv (n : Nat) (g : Nat) : Value := .slice (some ⟨g, 0, none⟩) n n
structure Rows2 (w : World) (base : Nat) (v : Value) (gs : List Nat) (rows : List (List Nat)) (n : Nat) : Prop where
  own : w.ownsRow base 45 1 v gs.length (gs.map (slv n))
  len : gs.length = rows.length
  blk : ∀ r, r < gs.length → Blk w (gs.getD r 0) (nums (rows.getD r [])) 3 ∧ (rows.getD r []).length = n ∧ base ≤ gs.getD r 0
  nodup : ∀ r r', r < gs.length → r' < gs.length → gs.getD r 0 = gs.getD r' 0 → r = r'

theorem own_move {w w1 : World} {base : Nat} {e : TypeId} {size n : Nat} {v : Value} {xs : List Value} (h : w.ownsRow base e size v n xs) (hm : ∀ k, v.ownBlock = some k → w1.heap[k]? = w.heap[k]?) : w1.ownsRow base e size v n xs := by
  obtain ⟨h1, h2⟩ := h
  refine ⟨h1, ?_⟩
  rcases h2 with h2 | ⟨g, cap, cur, rfl, hg, hh, r⟩
  · exact .inl h2
  · exact .inr ⟨g, cap, cur, rfl, hg, (hm g (by simp [Value.ownBlock])).trans hh, r⟩
theorem own_typed {w : World} {base : Nat} {e : TypeId} {size n : Nat} {v : Value} {xs : List Value} (h : w.ownsRow base e size v n xs) (k : Nat) (hk : v.ownBlock = some k) : ∃ cells, w.heap[k]? = some (.cells cells e (0, 0)) := by
  rcases h.2 with ⟨rfl, _⟩ | ⟨g, cap, cur, rfl, hg, hh, r⟩
  · simp [Value.ownBlock] at hk
  · have : g = k := by simpa [Value.ownBlock] using hk
    subst this
    exact ⟨cur, hh⟩
theorem own_ne {w : World} {base : Nat} {e t : TypeId} {size n : Nat} {v : Value} {xs vs : List Value} {b : Nat} (h : w.ownsRow base e size v n xs) (hb : Blk w b vs t) (ht : e ≠ t) : v.ownBlock ≠ some b := by
  intro hk
  obtain ⟨cells, hc⟩ := own_typed h b hk
  unfold Blk at hb
  rw [hb] at hc
  simp at hc
  exact ht hc.2.symm
theorem blk_ne {w : World} {b b' : Nat} {vs vs' : List Value} {t t' : TypeId} (h : Blk w b vs t) (h' : Blk w b' vs' t') (ht : t ≠ t') : b ≠ b' := by
  rintro rfl
  unfold Blk at h h'
  rw [h] at h'
  simp at h'
  exact ht h'.2

theorem mem_getD {gs : List Nat} {k : Nat} (h : k ∈ gs) : ∃ r, r < gs.length ∧ gs.getD r 0 = k := by
  obtain ⟨r, hr, rfl⟩ := List.getElem_of_mem h
  exact ⟨r, hr, by simp [List.getD, hr]⟩
theorem getD_mem {gs : List Nat} {r : Nat} (h : r < gs.length) : gs.getD r 0 ∈ gs := by
  have : gs.getD r 0 = gs[r] := by simp [List.getD, h]
  rw [this]; exact List.getElem_mem h

section
variable {w w' w1 : World} {base : Nat} {v v' : Value} {gs : List Nat} {rows : List (List Nat)} {n : Nat}
theorem Rows2.move (h : Rows2 w base v gs rows n) (hm : ∀ k, Foot v gs k → w'.heap[k]? = w.heap[k]?) : Rows2 w' base v gs rows n :=
  ⟨own_move h.own (fun k hk => hm k (.inl hk)), h.len, fun r hr => ⟨by
    unfold Blk
    rw [hm _ (.inr (getD_mem hr))]
    exact (h.blk r hr).1, (h.blk r hr).2⟩, h.nodup⟩
theorem Rows2.lt (h : Rows2 w base v gs rows n) {k : Nat} (hk : Foot v gs k) : base ≤ k ∧ k < w.heap.size := by
  rcases hk with hk | hk
  · exact h.own.lt k hk
  · obtain ⟨r, hr, rfl⟩ := mem_getD hk
    exact ⟨(h.blk r hr).2.2, (h.blk r hr).1.lt⟩
theorem Rows2.not (h : Rows2 w base v gs rows n) {b : Nat} {vs : List Value} {t : TypeId} (hb : Blk w b vs t) (h45 : (45 : TypeId) ≠ t) (h3 : (3 : TypeId) ≠ t) : ¬ Foot v gs b := by
  rintro (hk | hk)
  · exact own_ne h.own hb h45 hk
  · obtain ⟨r, hr, e⟩ := mem_getD hk
    have := (h.blk r hr).1
    rw [e] at this
    exact blk_ne this hb h3 rfl
theorem Rows2.nil (w : World) (base n : Nat) : Rows2 w base (.slice none 0 0) [] [] n := ⟨World.ownsRow_nil _ _ _ _, rfl, fun r hr => by simp at hr, fun r r' hr => by simp at hr⟩
/-- The cell of row r. -/
theorem Rows2.cell (h : Rows2 w base v gs rows n) {r : Nat} (hr : r < gs.length) : ∃ g cap, v = .slice (some ⟨g, 0, none⟩) gs.length cap ∧ w.cell? ⟨g, r, none⟩ = some (slv n (gs.getD r 0)) := by
  rcases h.own.2 with ⟨_, h0⟩ | ⟨g, cap, cur, rfl, hg, hh, hl, hm, hs, ht⟩
  · omega
  · refine ⟨g, cap, rfl, ?_⟩
    have hc := h.own.cells (g := g) rfl r (slv n (gs.getD r 0)) (by rw [List.getElem?_map, List.getElem?_eq_getElem hr]; simp [List.getD, hr])
    cases r with
    | zero => simpa [Addr.add] using hc
    | succ r => simpa [Addr.add] using hc

/-- A new row of zeros is appended. -/
theorem Rows2.grow (h : Rows2 w base v gs rows n) (hb : base ≤ w.heap.size) {o2 : Obj} {g cap : Nat}
    (hown : w1.ownsRow base 45 1 (.slice (some ⟨g, 0, none⟩) (gs.length + 1) cap) (gs.length + 1) (gs.map (slv n) ++ [slv n w.heap.size]))
    (hg : ((w.alloc (.cells (nums (List.replicate n 0)).toArray 3)).alloc o2).grownBy w1 v.ownBlock) :
    Rows2 w1 base (.slice (some ⟨g, 0, none⟩) (gs.length + 1) cap) (gs ++ [w.heap.size]) (rows ++ [List.replicate n 0]) n := by
  have hlen : (gs ++ [w.heap.size]).length = gs.length + 1 := by simp
  have hnew : Blk w1 w.heap.size (nums (List.replicate n 0)) 3 := by
    have h0 := (Blk.new w (nums (List.replicate n 0)).toArray 3).alloc o2
    rw [List.toList_toArray] at h0
    refine h0.grown hg (fun e => ?_)
    have := (h.own.lt _ e.symm).2
    omega
  have hold : ∀ r, r < gs.length → Blk w1 (gs.getD r 0) (nums (rows.getD r [])) 3 := fun r hr => by
    have h0 := (((h.blk r hr).1.alloc (.cells (nums (List.replicate n 0)).toArray 3)).alloc o2)
    exact h0.grown hg (fun e => own_ne h.own (h.blk r hr).1 (by decide) e.symm)
  refine ⟨by rw [hlen, List.map_append]; exact hown, by simp [h.len], fun r hr => ?_, fun r r' hr hr' he => ?_⟩
  · rw [hlen] at hr
    by_cases hlt : r < gs.length
    · have e1 : (gs ++ [w.heap.size]).getD r 0 = gs.getD r 0 := by simp [List.getD, List.getElem?_append, hlt]
      have e2 : (rows ++ [List.replicate n 0]).getD r [] = rows.getD r [] := by simp [List.getD, List.getElem?_append, h.len ▸ hlt]
      rw [e1, e2]
      exact ⟨hold r hlt, (h.blk r hlt).2⟩
    · obtain rfl : r = gs.length := by omega
      have e1 : (gs ++ [w.heap.size]).getD gs.length 0 = w.heap.size := by simp [List.getD]
      have e2 : (rows ++ [List.replicate n 0]).getD gs.length [] = List.replicate n 0 := by rw [h.len]; simp [List.getD]
      rw [e1, e2]
      exact ⟨hnew, by simp, hb⟩
  · rw [hlen] at hr hr'
    have g1 : ∀ r, r < gs.length → (gs ++ [w.heap.size]).getD r 0 = gs.getD r 0 := fun r hlt => by simp [List.getD, List.getElem?_append, hlt]
    have g2 : (gs ++ [w.heap.size]).getD gs.length 0 = w.heap.size := by simp [List.getD]
    have bl : ∀ r, r < gs.length → gs.getD r 0 < w.heap.size := fun r hlt => (h.blk r hlt).1.lt
    by_cases a : r < gs.length <;> by_cases b : r' < gs.length
    · rw [g1 r a, g1 r' b] at he; exact h.nodup r r' a b he
    · obtain rfl : r' = gs.length := by omega
      rw [g1 r a, g2] at he; have := bl r a; omega
    · obtain rfl : r = gs.length := by omega
      rw [g1 r' b, g2] at he; have := bl r' b; omega
    · omega

/-- An entry is set. -/
theorem Rows2.put (h : Rows2 w base v gs rows n) {r : Nat} (hr : r < gs.length) (m x : Nat) (hm : m < n) :
    Rows2 (w.setCell ⟨gs.getD r 0, m, none⟩ (.int .i64 (x : Int))) base v gs (rows.set r ((rows.getD r []).set m x)) n := by
  have hne := own_ne h.own (h.blk r hr).1 (by decide)
  refine ⟨own_move h.own (fun k hk => Below.heap_setCell _ _ _ _ (fun e => hne (by have e' : k = gs.getD r 0 := e; rw [← e']; exact hk))), by simp [h.len], fun r' hr' => ?_, h.nodup⟩
  by_cases e : r' = r
  · subst e
    have e1 : (rows.set r' ((rows.getD r' []).set m x)).getD r' [] = (rows.getD r' []).set m x := by simp [List.getD, h.len ▸ hr]
    rw [e1]
    refine ⟨?_, by rw [List.length_set]; exact (h.blk r' hr).2.1, (h.blk r' hr).2.2⟩
    have := (h.blk r' hr).1.set m (.int .i64 (x : Int))
    have e2 : nums ((rows.getD r' []).set m x) = (nums (rows.getD r' [])).set m (.int .i64 (x : Int)) := by unfold nums; rw [List.map_set]
    rw [e2]; exact this
  · have e1 : (rows.set r ((rows.getD r []).set m x)).getD r' [] = rows.getD r' [] := by simp [List.getD, List.getElem?_set_ne (Ne.symm e)]
    rw [e1]
    exact ⟨(h.blk r' hr').1.far (fun e3 => e (h.nodup _ _ hr' hr e3)) _ _, (h.blk r' hr').2⟩
end

/-! ### the rows so far -/
/-- After k entries have been dealt into rows of n. -/
def rowsK (f : Nat → Nat) (n k : Nat) : List (List Nat) := (List.range ((k + n - 1) / n)).map fun r => (List.range n).map fun m => if r * n + m < k then f (r * n + m) else 0
def rowsA (f : Nat → Nat) (n k : Nat) : List (List Nat) := if k % n = 0 then rowsK f n k ++ [List.replicate n 0] else rowsK f n k

theorem div_up (n k : Nat) (hn : 1 ≤ n) : (k + n - 1) / n = if k % n = 0 then k / n else k / n + 1 := by
  have h := Nat.div_add_mod k n
  have hm := Nat.mod_lt k (show 0 < n by omega)
  split
  · rename_i h0
    rw [Nat.div_eq_of_lt_le]
    · rw [Nat.mul_comm]; omega
    · rw [Nat.add_mul, Nat.mul_comm (k / n)]; omega
  · rename_i h0
    rw [Nat.div_eq_of_lt_le]
    · rw [Nat.add_mul, Nat.mul_comm (k / n)]; omega
    · rw [Nat.add_mul, Nat.add_mul, Nat.mul_comm (k / n)]; omega

theorem rowsA_length (f : Nat → Nat) (n k : Nat) (hn : 1 ≤ n) : (rowsA f n k).length = k / n + 1 := by
  unfold rowsA rowsK
  have := div_up n k hn
  split <;> rename_i h0 <;> simp [h0] at this <;> simp [this]

theorem rowsA_get (f : Nat → Nat) (n k r : Nat) (hn : 1 ≤ n) (hr : r < k / n + 1) : (rowsA f n k)[r]? = some ((List.range n).map fun m => if r * n + m < k then f (r * n + m) else 0) := by
  have hu := div_up n k hn
  have h := Nat.div_add_mod k n
  unfold rowsA rowsK
  split <;> rename_i h0
  · simp only [h0, if_true] at hu
    rw [hu]
    by_cases hlt : r < k / n
    · rw [List.getElem?_append_left (by simpa using hlt), List.getElem?_map, List.getElem?_range hlt]; rfl
    · obtain rfl : r = k / n := by omega
      rw [List.getElem?_append_right (by simp)]
      simp only [List.length_map, List.length_range, Nat.sub_self, List.getElem?_cons_zero]
      congr 1
      apply List.ext_getElem
      · simp
      · intro i h1 h2
        simp only [List.getElem_replicate, List.getElem_map, List.getElem_range]
        rw [if_neg]
        rw [Nat.mul_comm]; omega
  · simp only [h0, if_false] at hu
    rw [hu, List.getElem?_map, List.getElem?_range hr]; rfl

theorem rowsK_get (f : Nat → Nat) (n k r : Nat) : (rowsK f n k)[r]? = if r < (k + n - 1) / n then some ((List.range n).map fun m => if r * n + m < k then f (r * n + m) else 0) else none := by
  unfold rowsK
  rw [List.getElem?_map]
  split
  · rename_i h; rw [List.getElem?_range h]; rfl
  · rename_i h; rw [List.getElem?_eq_none (by simp; omega)]; rfl

theorem rowsA_set (f : Nat → Nat) (n k : Nat) (hn : 1 ≤ n) : (rowsA f n k).set (k / n) (((rowsA f n k).getD (k / n) []).set (k % n) (f k)) = rowsK f n (k + 1) := by
  have h := Nat.div_add_mod k n
  have hm := Nat.mod_lt k (show 0 < n by omega)
  have hlen := rowsA_length f n k hn
  have hK : (k + 1 + n - 1) / n = k / n + 1 := by
    rw [show k + 1 + n - 1 = k + n by omega, Nat.add_div_right _ (by omega)]
  apply List.ext_getElem?
  intro r
  rw [rowsK_get, hK, List.getElem?_set]
  by_cases e : k / n = r
  · subst e
    rw [if_pos rfl, if_pos (by omega), if_pos (by omega)]
    congr 1
    have hg := rowsA_get f n k (k / n) hn (by omega)
    have hd : (rowsA f n k).getD (k / n) [] = (List.range n).map fun m => if k / n * n + m < k then f (k / n * n + m) else 0 := by simp only [List.getD, hg]; rfl
    rw [hd]
    apply List.ext_getElem
    · simp
    · intro i h1 h2
      rw [List.getElem_set]
      simp only [List.getElem_map, List.getElem_range]
      have e2 : k / n * n = n * (k / n) := Nat.mul_comm _ _
      split
      · rename_i e3
        rw [if_pos (by rw [e2]; omega)]
        congr 1
        rw [e2]; omega
      · rename_i e3
        by_cases c : k / n * n + i < k
        · rw [if_pos c, if_pos (by omega)]
        · rw [if_neg c, if_neg (by rw [e2] at c ⊢; omega)]
  · rw [if_neg e]
    by_cases hr : r < k / n + 1
    · rw [rowsA_get f n k r hn hr, if_pos hr]
      congr 1
      apply List.map_congr_left
      intro m hmm
      have hm2 := List.mem_range.1 hmm
      have : r * n + m < k := by
        have h1 : r + 1 ≤ k / n := by omega
        have h2 := Nat.mul_le_mul_right n h1
        rw [Nat.add_mul] at h2
        rw [Nat.mul_comm (k / n)] at h2
        omega
      rw [if_pos this, if_pos (by omega)]
    · rw [List.getElem?_eq_none (by omega), if_neg hr]

end Go.Proofs.Ytmoemalkojckaaa.J
