import Derived.Test.YtmoemalkojckaaaProg
import Derived.Below
import Derived.Deep.Draws
import Derived.Deep.AppendLies
import Derived.OwnWalk
import Derived.Laws.MakeOwn
import Derived.Laws.OwnMore
import Derived.Deep.OwnRows
import Derived.Tactics
import Derived.Laws.Slices
import Derived.WalkKit
import Derived.KernelRfl
import Derived.RowKit3
import Derived.Deep.LoopGhost
import Derived.Deep.QuietTactic
import Derived.BigQuiet
import Derived.Deep.DeepCutAuto
import Derived.Deep.CutBlock
import Derived.Deep.RegionHeld3
import Derived.Laws.Rows
import Derived.Laws.BitsLemmas
import Derived.RowKit
import Derived.Lib.Hide
import Derived.WalkLawsBesides
import Derived.WalkSpells
import Derived.Deep.DeepFit
import Derived.Test.YtmoemalkojckaaaJ22
namespace Go.Proofs.Ytmoemalkojckaaa.J
open Go.RowKit
set_option linter.unusedVariables false
set_option linter.unusedSimpArgs false

/-! ### whoever signs more makes nothing undecidable -/
def sub2 (x y : Nat) : Prop := x &&& y = x
inductive Rel2 : List Nat → List Nat → Prop
  | nil : Rel2 [] []
  | cons {x y : Nat} {l l' : List Nat} : sub2 x y → Rel2 l l' → Rel2 (x :: l) (y :: l')
inductive RelT : List (List Nat) → List (List Nat) → Prop
  | nil : RelT [] []
  | cons {x y : List Nat} {l l' : List (List Nat)} : Rel2 x y → RelT l l' → RelT (x :: l) (y :: l')

theorem sub2_test {x y : Nat} (h : sub2 x y) (c : Nat) (hx : (x &&& c != 0) = true) : (y &&& c != 0) = true := by
  rw [bne_iff_ne] at hx ⊢
  intro h0
  apply hx
  rw [← h, Nat.and_assoc, h0, Nat.and_zero]
theorem sub2_and {x y c d : Nat} (h : sub2 x y) (hc : sub2 c d) : sub2 (x &&& c) (y &&& d) := by
  unfold sub2 at *
  apply Nat.eq_of_testBit_eq
  intro i
  have h1 := congrArg (fun z => z.testBit i) h
  have h2 := congrArg (fun z => z.testBit i) hc
  simp only [Nat.testBit_and] at h1 h2 ⊢
  cases a : x.testBit i <;> cases b : c.testBit i <;> simp_all
theorem Rel2.cnt {l l' : List Nat} (h : Rel2 l l') (c : Nat) : JM.cnt l c ≤ JM.cnt l' c := by
  unfold JM.cnt
  induction h with
  | nil => simp
  | cons hx h ih =>
    rename_i x y l l'
    simp only [List.countP_cons]
    have := sub2_test hx c
    cases hb : (x &&& c != 0)
    · simp; omega
    · rw [this hb]; simp; exact ih
theorem Rel2.any3 {l l' : List Nat} (h : Rel2 l l') (h3 : ∀ x ∈ l', x ≤ 3) (ha : l.any (· == 3) = true) : l'.any (· == 3) = true := by
  induction h with
  | nil => simp at ha
  | cons hx h ih =>
    rename_i x y l l'
    simp only [List.any_cons, Bool.or_eq_true, beq_iff_eq] at ha ⊢
    rcases ha with rfl | ha
    · left
      have hy := h3 y (by simp)
      have : y = 0 ∨ y = 1 ∨ y = 2 ∨ y = 3 := by omega
      rcases this with rfl | rfl | rfl | rfl
      · exact absurd hx (by unfold sub2; decide)
      · exact absurd hx (by unfold sub2; decide)
      · exact absurd hx (by unfold sub2; decide)
      · rfl
    · exact .inr (ih (fun x hx => h3 x (by simp [hx])) ha)
theorem Rel2.both {l l' : List Nat} (h : Rel2 l l') (h3 : ∀ x ∈ l', x ≤ 3) (q : Nat) (hb : JM.bothQ l q = true) : JM.bothQ l' q = true := by
  unfold JM.bothQ at *
  simp only [Bool.and_eq_true, Bool.or_eq_true, decide_eq_true_eq] at hb ⊢
  obtain ⟨⟨⟨a, b⟩, c⟩, d⟩ := hb
  have := h.cnt 3
  have := h.cnt 1
  have := h.cnt 2
  refine ⟨⟨⟨by omega, by omega⟩, by omega⟩, ?_⟩
  rcases d with d | d
  · exact .inl d
  · exact .inr (h.any3 h3 d)
theorem bits3_sub (a b c a' b' c' : Prop) [Decidable a] [Decidable b] [Decidable c] [Decidable a'] [Decidable b'] [Decidable c'] (h1 : a → a') (h2 : b → b') (h3 : c → c') :
    sub2 ((if a then 1 else 0) ||| (if b then 2 else 0) ||| (if c then 4 else 0)) ((if a' then 1 else 0) ||| (if b' then 2 else 0) ||| (if c' then 4 else 0)) := by
  unfold sub2
  by_cases a <;> by_cases b <;> by_cases c <;> by_cases a' <;> by_cases b' <;> by_cases c' <;> simp_all
theorem bits2_sub (a b a' b' : Prop) [Decidable a] [Decidable b] [Decidable a'] [Decidable b'] (h1 : a → a') (h2 : b → b') :
    sub2 ((if a then 1 else 0) ||| (if b then 2 else 0)) ((if a' then 1 else 0) ||| (if b' then 2 else 0)) := by
  unfold sub2
  by_cases a <;> by_cases b <;> by_cases a' <;> by_cases b' <;> simp_all
theorem Rel2.poss {l l' : List Nat} (h : Rel2 l l') (h3 : ∀ x ∈ l', x ≤ 3) (q : Nat) : sub2 (JM.poss l q) (JM.poss l' q) := by
  have a := h.cnt 1
  have b := h.cnt 2
  exact bits3_sub _ _ _ _ _ _ (fun h => by omega) (fun h => by omega) (h.both h3 q)
theorem Rel2.keep {l l' : List Nat} (h : Rel2 l l') {c c' : Nat} (hc : sub2 c c') : Rel2 (JM.keep l c) (JM.keep l' c') := by
  induction h with
  | nil => exact .nil
  | cons hx h ih => exact .cons (sub2_and hx hc) ih
theorem next_mono {pre pre' com com' : List Nat} (hp : Rel2 pre pre') (hc : Rel2 com com') (q x : Nat) (h : JM.nextC pre com q x = true) : JM.nextC pre' com' q x = true := by
  unfold JM.nextC at *
  simp only [Bool.and_eq_true, Bool.or_eq_true, decide_eq_true_eq] at h ⊢
  have := hc.cnt (x ||| 4)
  have := hc.cnt x
  have := hc.cnt 4
  have := hp.cnt x
  rcases h with h | h
  · left; omega
  · right; omega
theorem dec_mono (q : Nat) : ∀ {coms coms' : List (List Nat)}, RelT coms coms' → ∀ {pre pre' : List Nat} {pres pres' : List (List Nat)}, Rel2 pre pre' → RelT pres pres' → (∀ x ∈ pre', x ≤ 3) → (∀ l ∈ pres', ∀ x ∈ l, x ≤ 3) →
    ((JM.dec q pre pres coms).1 = true → (JM.dec q pre' pres' coms').1 = true) ∧ ((JM.dec q pre pres coms).2 = true → (JM.dec q pre' pres' coms').2 = true) := by
  intro coms coms' h
  induction h with
  | nil => intro pre pre' pres pres' _ _ _ _; simp [JM.dec]
  | cons hx h ih =>
    rename_i c c' cs cs'
    intro pre pre' pres pres' hp hps h3 h3s
    have hcom := hx.keep (hp.poss h3 q)
    have k1 := hcom.cnt 1
    have k2 := hcom.cnt 2
    have hn : sub2 (JM.nxt pre (JM.keep c (JM.poss pre q)) q) (JM.nxt pre' (JM.keep c' (JM.poss pre' q)) q) := bits2_sub _ _ _ _ (next_mono hp hcom q 1) (next_mono hp hcom q 2)
    have rest : ∀ d d' : Bool × Bool, ((d.1 = true → d'.1 = true) ∧ (d.2 = true → d'.2 = true)) →
        (((decide (q ≤ JM.cnt (JM.keep c (JM.poss pre q)) 1) || d.1) = true → (decide (q ≤ JM.cnt (JM.keep c' (JM.poss pre' q)) 1) || d'.1) = true) ∧ ((decide (q ≤ JM.cnt (JM.keep c (JM.poss pre q)) 2) || d.2) = true → (decide (q ≤ JM.cnt (JM.keep c' (JM.poss pre' q)) 2) || d'.2) = true)) := by
      rintro d d' ⟨a, b⟩
      simp only [Bool.or_eq_true, decide_eq_true_eq]
      constructor
      · rintro (e | e)
        · left; omega
        · exact .inr (a e)
      · rintro (e | e)
        · left; omega
        · exact .inr (b e)
    cases hps with
    | nil => exact rest _ _ (ih hp .nil h3 h3s)
    | cons hy hps =>
      rename_i p p' ps ps'
      exact rest _ _ (ih (hy.keep hn) hps (JM.keep_le (h3s p' (by simp))) (fun l hl => h3s l (by simp [hl])))

theorem two_sub {x y : Nat} (h : sub2 x y) (hx : x ≤ 7) (hy : y ≤ 7) (ht : JM.two x = true) : JM.two y = true := by
  have key : ∀ x y : Fin 8, x.val &&& y.val = x.val → JM.two x.val = true → JM.two y.val = true := by decide +kernel
  exact key ⟨x, by omega⟩ ⟨y, by omega⟩ h ht
theorem andNot_zero : ∀ x y : Fin 128, x.val &&& y.val = x.val → Go.bits .andNot .i64 (x.val : Int) (y.val : Int) = 0 := by decide +kernel

/-- Entry by entry: u's entries and t's. -/
def orT (u t : List (List Nat)) : List (List Nat) := (List.range t.length).map fun r => (List.range (t.getD r []).length).map fun m => (u.getD r []).getD m 0 ||| (t.getD r []).getD m 0

theorem rel2_of {l l' : List Nat} (hl : l.length = l'.length) (h : ∀ i, i < l.length → sub2 (l.getD i 0) (l'.getD i 0)) : Rel2 l l' := by
  induction l generalizing l' with
  | nil => cases l' with
    | nil => exact .nil
    | cons _ _ => simp at hl
  | cons x l ih =>
    cases l' with
    | nil => simp at hl
    | cons y l' =>
      refine .cons (by simpa using h 0 (by simp)) (ih (by simpa using hl) (fun i hi => by simpa using h (i + 1) (by simpa using hi)))
theorem relT_of {l l' : List (List Nat)} (hl : l.length = l'.length) (h : ∀ i, i < l.length → Rel2 (l.getD i []) (l'.getD i [])) : RelT l l' := by
  induction l generalizing l' with
  | nil => cases l' with
    | nil => exact .nil
    | cons _ _ => simp at hl
  | cons x l ih =>
    cases l' with
    | nil => simp at hl
    | cons y l' =>
      refine .cons (by simpa using h 0 (by simp)) (ih (by simpa using hl) (fun i hi => by simpa using h (i + 1) (by simpa using hi)))
theorem orT_length (u t : List (List Nat)) : (orT u t).length = t.length := by simp [orT]
theorem orT_row (u t : List (List Nat)) (r : Nat) (h : r < t.length) : (orT u t).getD r [] = (List.range (t.getD r []).length).map fun m => (u.getD r []).getD m 0 ||| (t.getD r []).getD m 0 := by
  unfold orT
  rw [List.getD, List.getElem?_map, List.getElem?_range h]; rfl
theorem orT_rel (u t : List (List Nat)) : RelT t (orT u t) := by
  refine relT_of (orT_length u t).symm fun r hr => ?_
  rw [orT_row u t r hr]
  refine rel2_of (by simp) fun i hi => ?_
  have e : ((List.range (t.getD r []).length).map fun m => (u.getD r []).getD m 0 ||| (t.getD r []).getD m 0).getD i 0 = (u.getD r []).getD i 0 ||| (t.getD r []).getD i 0 := by
    rw [List.getD, List.getElem?_map, List.getElem?_range hi]; rfl
  rw [e]
  unfold sub2
  apply Nat.eq_of_testBit_eq
  intro j
  simp only [Nat.testBit_and, Nat.testBit_or]
  cases ((t.getD r []).getD i 0).testBit j <;> simp

theorem orT_rowOk {n : Nat} {u t : List (List Nat)} (b : Nat) (hl : u.length = t.length) (hu : ∀ l ∈ u, JM.rowOk n (2 ^ b - 1) l) (ht : ∀ l ∈ t, JM.rowOk n (2 ^ b - 1) l) : ∀ l ∈ orT u t, JM.rowOk n (2 ^ b - 1) l := by
  intro l hl'
  obtain ⟨r, hr, rfl⟩ := List.mem_map.1 hl'
  have hr := List.mem_range.1 hr
  have h1 := ht _ (show t.getD r [] ∈ t by
    have : t.getD r [] = t[r] := by simp [List.getD, hr]
    rw [this]; exact List.getElem_mem _)
  have h2 := hu _ (show u.getD r [] ∈ u by
    have hr' : r < u.length := by omega
    have : u.getD r [] = u[r] := by simp [List.getD, hr']
    rw [this]; exact List.getElem_mem _)
  refine ⟨by rw [List.length_map, List.length_range]; exact h1.1, fun x hx => ?_⟩
  obtain ⟨m, _, rfl⟩ := List.mem_map.1 hx
  have a := getD_le h2.2 m
  have b' := getD_le h1.2 m
  have hp : 0 < 2 ^ b := Nat.two_pow_pos b
  have := Nat.or_lt_two_pow (show (u.getD r []).getD m 0 < 2 ^ b by omega) (show (t.getD r []).getD m 0 < 2 ^ b by omega)
  omega
theorem orT_valid {n : Nat} {uP uC tP tC : List (List Nat)} (hu : JM.Valid n uP uC) (ht : JM.Valid n tP tC) (hl : uP.length = tP.length) : JM.Valid n (orT uP tP) (orT uC tC) where
  len := by rw [orT_length, orT_length]; exact ht.len
  pos := by rw [orT_length]; exact ht.pos
  le := by rw [orT_length]; exact ht.le
  n1 := ht.n1
  n7 := ht.n7
  p := orT_rowOk 2 hl hu.p ht.p
  c := orT_rowOk 3 (by rw [← hu.len, ← ht.len]; exact hl) hu.c ht.c
theorem grow_dec {n : Nat} {uP uC tP tC : List (List Nat)} (hu : JM.Valid n uP uC) (ht : JM.Valid n tP tC) (hl : uP.length = tP.length) :
    ((JM.decT n tP tC).1 = true → (JM.decT n (orT uP tP) (orT uC tC)).1 = true) ∧ ((JM.decT n tP tC).2 = true → (JM.decT n (orT uP tP) (orT uC tC)).2 = true) := by
  have hv := orT_valid hu ht hl
  have r1 := orT_rel uP tP
  have r2 := orT_rel uC tC
  generalize orT uP tP = P at *
  generalize orT uC tC = C at *
  cases r1 with
  | nil => simp [JM.decT]
  | cons hx h =>
    exact dec_mono _ r2 hx h (hv.p _ (by simp)).2 (fun l hl => (hv.p l (by simp [hl])).2)
theorem any_rel {tP P : List (List Nat)} (h : RelT tP P) (h7 : ∀ l ∈ tP, ∀ x ∈ l, x ≤ 7) (h7' : ∀ l ∈ P, ∀ x ∈ l, x ≤ 7) (m : Nat) (ha : tP.any (fun l => JM.two (l.getD m 0)) = true) : P.any (fun l => JM.two (l.getD m 0)) = true := by
  induction h with
  | nil => simp at ha
  | cons hx h ih =>
    rename_i x y l l'
    simp only [List.any_cons, Bool.or_eq_true] at ha ⊢
    rcases ha with ha | ha
    · left
      have hs : ∀ {a b : List Nat}, Rel2 a b → ∀ m, sub2 (a.getD m 0) (b.getD m 0) := by
        intro a b hab
        induction hab with
        | nil => intro m; simp [sub2]
        | cons h1 h2 ih2 =>
          intro m
          cases m with
          | zero => simpa using h1
          | succ m => simpa using ih2 m
      exact two_sub (hs hx m) (getD_le (h7 x (by simp)) m) (getD_le (h7' y (by simp)) m) ha
    · exact .inr (ih (fun l hl => h7 l (by simp [hl])) (fun l hl => h7' l (by simp [hl])) ha)
theorem grow_conf {n : Nat} {uP uC tP tC : List (List Nat)} (hu : JM.Valid n uP uC) (ht : JM.Valid n tP tC) (hl : uP.length = tP.length) :
    Go.bits .andNot .i64 (maskOf 7 (JM.conf tP tC) : Int) (maskOf 7 (JM.conf (orT uP tP) (orT uC tC)) : Int) = 0 := by
  have hv := orT_valid hu ht hl
  refine andNot_zero ⟨maskOf 7 (JM.conf tP tC), maskOf_lt 7 _⟩ ⟨maskOf 7 (JM.conf (orT uP tP) (orT uC tC)), maskOf_lt 7 _⟩ ?_
  simp only
  apply Nat.eq_of_testBit_eq
  intro j
  rw [Nat.testBit_and, maskOf_testBit, maskOf_testBit]
  have key : JM.conf tP tC j = true → JM.conf (orT uP tP) (orT uC tC) j = true := by
    intro h
    unfold JM.conf at *
    rw [Bool.or_eq_true] at h ⊢
    rcases h with h | h
    · exact .inl (any_rel (orT_rel uP tP) (fun l hl x hx => Nat.le_trans ((ht.p l hl).2 x hx) (by omega)) (fun l hl x hx => Nat.le_trans ((hv.p l hl).2 x hx) (by omega)) j h)
    · exact .inr (any_rel (orT_rel uC tC) (fun l hl => (ht.c l hl).2) (fun l hl => (hv.c l hl).2) j h)
  cases a : JM.conf tP tC j with
  | false => simp
  | true => rw [key a]; simp

end Go.Proofs.Ytmoemalkojckaaa.J
