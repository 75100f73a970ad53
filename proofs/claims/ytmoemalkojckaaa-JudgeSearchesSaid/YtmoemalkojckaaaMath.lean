/- Plain mathematics of the judge: what a table decides, and that a fork convicts. No program in sight. -/
namespace Go.Proofs.Ytmoemalkojckaaa.JM

def quorum (n : Nat) : Nat := n - (n - 1) / 3
def third (n : Nat) : Nat := (n - 1) / 3 + 1

def cnt (l : List Nat) (c : Nat) : Nat := l.countP fun x => x &&& c != 0
def bothQ (l : List Nat) (q : Nat) : Bool := decide (q ≤ cnt l 3) && decide (0 < cnt l 1) && decide (0 < cnt l 2) && (decide (1 < q) || l.any (· == 3))
def poss (pre : List Nat) (q : Nat) : Nat := (if q ≤ cnt pre 1 then 1 else 0) ||| (if q ≤ cnt pre 2 then 2 else 0) ||| (if bothQ pre q = true then 4 else 0)
def keep (l : List Nat) (c : Nat) : List Nat := l.map fun x => x &&& c
def nextC (pre com : List Nat) (q x : Nat) : Bool := (decide (q ≤ cnt com (x ||| 4)) && decide (0 < cnt com x)) || (decide (q ≤ cnt com 4) && decide (0 < cnt pre x))
def nxt (pre com : List Nat) (q : Nat) : Nat := (if nextC pre com q 1 = true then 1 else 0) ||| (if nextC pre com q 2 = true then 2 else 0)

/-- What is decided from a round on: pre is what is possible in it, pres the later rounds' entries, coms this round's and the later ones'. -/
def dec (q : Nat) : List Nat → List (List Nat) → List (List Nat) → Bool × Bool
  | _, _, [] => (false, false)
  | pre, pres, c :: cs =>
    let com := keep c (poss pre q)
    let d := match pres with
      | [] => dec q pre [] cs
      | p :: ps => dec q (keep p (nxt pre com q)) ps cs
    (decide (q ≤ cnt com 1) || d.1, decide (q ≤ cnt com 2) || d.2)

/-- Two choices or more. -/
def two (x : Nat) : Bool := x &&& (x - 1) != 0

def rowOk (n hi : Nat) (l : List Nat) : Prop := l.length = n ∧ ∀ x ∈ l, x ≤ hi
structure Valid (n : Nat) (pre com : List (List Nat)) : Prop where
  len : pre.length = com.length
  pos : 1 ≤ pre.length
  le : pre.length ≤ 3
  n1 : 1 ≤ n
  n7 : n ≤ 7
  p : ∀ l ∈ pre, rowOk n 3 l
  c : ∀ l ∈ com, rowOk n 7 l

def conf (pre com : List (List Nat)) (m : Nat) : Bool := pre.any (fun l => two (l.getD m 0)) || com.any (fun l => two (l.getD m 0))
def nconf (n : Nat) (pre com : List (List Nat)) : Nat := (List.range n).countP (conf pre com)
def decT (n : Nat) (pre com : List (List Nat)) : Bool × Bool :=
  match pre with
  | [] => (false, false)
  | p :: ps => dec (quorum n) p ps com

/-! ### counting -/
theorem countP_and_le {α : Type} (p r : α → Bool) (l : List α) : l.countP p + l.countP r ≤ l.length + l.countP (fun x => p x && r x) := by
  induction l with
  | nil => simp
  | cons a l ih =>
    simp only [List.countP_cons, List.length_cons]
    cases p a <;> cases r a <;> simp <;> omega

theorem countP_range {α : Type} (p : α → Bool) (d : α) (l : List α) : l.countP p = (List.range l.length).countP (fun m => p (l.getD m d)) := by
  induction l with
  | nil => rfl
  | cons a l ih =>
    rw [List.length_cons, List.range_succ_eq_map, List.countP_cons, List.countP_cons, List.countP_map, ih]
    simp [Function.comp_def]

theorem countP_le_of_imp {α : Type} {p r : α → Bool} {l : List α} (h : ∀ x ∈ l, p x = true → r x = true) : l.countP p ≤ l.countP r := by
  induction l with
  | nil => simp
  | cons a l ih =>
    simp only [List.countP_cons]
    have h1 := h a (by simp)
    have h2 := ih (fun x hx => h x (by simp [hx]))
    cases hp : p a <;> simp_all <;> omega

theorem le7 (P : Nat → Prop) (h : ∀ x : Fin 8, P x.val) (x : Nat) (hx : x ≤ 7) : P x := h ⟨x, by omega⟩

theorem two_of_and (x : Nat) (hx : x ≤ 7) : ∀ c, c ≤ 7 → two (x &&& c) = true → two x = true := by
  refine le7 (fun x => ∀ c, c ≤ 7 → two (x &&& c) = true → two x = true) ?_ x hx
  intro x c hc
  exact le7 (fun c => two (x.val &&& c) = true → two x.val = true) (by revert x; decide) c hc

theorem one_not (x : Nat) (hx : x ≤ 7) (h1 : (x &&& 1 != 0) = true) (h2 : (x &&& 6 != 0) = true) : two x = true := by
  revert h1 h2
  exact le7 (fun x => (x &&& 1 != 0) = true → (x &&& 6 != 0) = true → two x = true) (by decide) x hx
theorem two_not (x : Nat) (hx : x ≤ 7) (h1 : (x &&& 2 != 0) = true) (h2 : (x &&& 5 != 0) = true) : two x = true := by
  revert h1 h2
  exact le7 (fun x => (x &&& 2 != 0) = true → (x &&& 5 != 0) = true → two x = true) (by decide) x hx

theorem and_le7 (x c : Nat) (hx : x ≤ 7) : x &&& c ≤ 7 := Nat.le_trans Nat.and_le_left hx
theorem keep_le {l : List Nat} {c hi : Nat} (h : ∀ x ∈ l, x ≤ hi) : ∀ x ∈ keep l c, x ≤ hi := by
  intro x hx
  obtain ⟨y, hy, rfl⟩ := List.mem_map.1 hx
  exact Nat.le_trans Nat.and_le_left (h y hy)
theorem keep_length (l : List Nat) (c : Nat) : (keep l c).length = l.length := List.length_map ..
theorem poss_le (pre : List Nat) (q : Nat) : poss pre q ≤ 7 := by unfold poss; split <;> split <;> split <;> decide
theorem nxt_le (pre com : List Nat) (q : Nat) : nxt pre com q ≤ 3 := by unfold nxt; split <;> split <;> decide

/-- A row in which a quorum has choice x (1 or 2) and a quorum another: many entries hold two. -/
theorem two_many (l : List Nat) (q x y : Nat) (hl : ∀ z ∈ l, z ≤ 7) (h1 : q ≤ cnt l x) (h2 : q ≤ cnt l y) (hxy : (x = 1 ∧ y = 6) ∨ (x = 2 ∧ y = 5)) : 2 * q ≤ l.length + l.countP two := by
  have h := countP_and_le (fun z => z &&& x != 0) (fun z => z &&& y != 0) l
  have h3 : l.countP (fun z => z &&& x != 0 && z &&& y != 0) ≤ l.countP two := by
    refine countP_le_of_imp fun z hz hh => ?_
    rw [Bool.and_eq_true] at hh
    rcases hxy with ⟨rfl, rfl⟩ | ⟨rfl, rfl⟩
    · exact one_not z (hl z hz) hh.1 hh.2
    · exact two_not z (hl z hz) hh.1 hh.2
  unfold cnt at h1 h2
  omega

theorem cnt_le (l : List Nat) (x y : Nat) (h : ∀ z, (z &&& x != 0) = true → (z &&& y != 0) = true) : cnt l x ≤ cnt l y := countP_le_of_imp fun z _ hz => h z hz
theorem and_sub (z x y : Nat) (h : x &&& y = x) (hz : (z &&& x != 0) = true) : (z &&& y != 0) = true := by
  rw [bne_iff_ne] at hz ⊢
  intro h0
  apply hz
  rw [← h, Nat.and_comm x y, ← Nat.and_assoc, h0, Nat.zero_and]

theorem cnt_keep_two (l : List Nat) (c : Nat) (hl : ∀ z ∈ l, z ≤ 7) (hc : c ≤ 7) : (keep l c).countP two ≤ l.countP two := by
  unfold keep
  rw [List.countP_map]
  exact countP_le_of_imp fun z hz h => two_of_and z (hl z hz) c hc h

/-- A count is zero where the kept choices lack it. -/
theorem cnt_keep_zero (l : List Nat) (c x : Nat) (h : c &&& x = 0) : cnt (keep l c) x = 0 := by
  unfold cnt keep
  rw [List.countP_map, List.countP_eq_zero]
  intro z _
  simp [Nat.and_assoc, h]

theorem bits_cases (b1 b2 b3 : Bool) : ((if b1 = true then 1 else 0) ||| (if b2 = true then 2 else 0) ||| (if b3 = true then 4 else 0) : Nat) &&& 1 = (if b1 = true then 1 else 0) ∧ ((if b1 = true then 1 else 0) ||| (if b2 = true then 2 else 0) ||| (if b3 = true then 4 else 0) : Nat) &&& 2 = (if b2 = true then 2 else 0) := by
  cases b1 <;> cases b2 <;> cases b3 <;> decide

theorem poss_without (pre : List Nat) (q x : Nat) (hq : 1 ≤ q) (h : cnt pre x = 0) (hx : x = 1 ∨ x = 2) : poss pre q &&& x = 0 := by
  unfold poss
  rcases hx with rfl | rfl
  · rw [if_neg (by omega : ¬ q ≤ cnt pre 1)]
    split <;> split <;> decide
  · rw [if_neg (by omega : ¬ q ≤ cnt pre 2)]
    split <;> split <;> decide

theorem nxt_without (pre com : List Nat) (q x : Nat) (h : nextC pre com q x = false) (hx : x = 1 ∨ x = 2) : nxt pre com q &&& x = 0 := by
  unfold nxt
  rcases hx with rfl | rfl
  · rw [h]
    cases nextC pre com q 2 <;> decide
  · rw [h]
    cases nextC pre com q 1 <;> decide

/-- Nobody can prevote for x in this round: x is decided neither here nor later. -/
theorem dec_never (q x : Nat) (hq : 1 ≤ q) (hx : x = 1 ∨ x = 2) (coms : List (List Nat)) : ∀ (pre : List Nat) (pres : List (List Nat)), cnt pre x = 0 → (if x = 1 then (dec q pre pres coms).1 else (dec q pre pres coms).2) = false := by
  induction coms with
  | nil => intro pre pres _; simp [dec]
  | cons c cs ih =>
    intro pre pres h0
    have hp := poss_without pre q x hq h0 hx
    have hc : cnt (keep c (poss pre q)) x = 0 := cnt_keep_zero _ _ _ hp
    have hn : nextC pre (keep c (poss pre q)) q x = false := by simp [nextC, hc, h0]
    have hw := nxt_without pre (keep c (poss pre q)) q x hn hx
    have hd : decide (q ≤ cnt (keep c (poss pre q)) x) = false := by simp [hc]; omega
    cases pres with
    | nil =>
      have := ih pre [] h0
      rcases hx with rfl | rfl <;> simp_all [dec]
    | cons p ps =>
      have := ih (keep p (nxt pre (keep c (poss pre q)) q)) ps (cnt_keep_zero _ _ _ hw)
      rcases hx with rfl | rfl <;> simp_all [dec]

/-- Where few entries of every row hold two choices, not both choices are decided. -/
theorem dec_one (n q : Nat) (hq : 1 ≤ q) (coms : List (List Nat)) : ∀ (pre : List Nat) (pres : List (List Nat)), pres.length + 1 = coms.length → (∀ l ∈ coms, rowOk n 7 l ∧ l.countP two + n < 2 * q) →
    ¬ ((dec q pre pres coms).1 = true ∧ (dec q pre pres coms).2 = true) := by
  induction coms with
  | nil => intro pre pres h; simp at h
  | cons c cs ih =>
    intro pre pres hlen hall
    obtain ⟨⟨hl, hle⟩, hfew⟩ := hall c (by simp)
    generalize hcom : keep c (poss pre q) = com
    have hle' : ∀ z ∈ com, z ≤ 7 := by rw [← hcom]; exact keep_le hle
    have hl' : com.length = n := by rw [← hcom, keep_length]; exact hl
    have htw : com.countP two ≤ c.countP two := by rw [← hcom]; exact cnt_keep_two c _ hle (poss_le _ _)
    have hA : ¬ (q ≤ cnt com 1 ∧ q ≤ cnt com 6) := by
      rintro ⟨h1, h2⟩
      have := two_many com q 1 6 hle' h1 h2 (.inl ⟨rfl, rfl⟩)
      omega
    have hB : ¬ (q ≤ cnt com 2 ∧ q ≤ cnt com 5) := by
      rintro ⟨h1, h2⟩
      have := two_many com q 2 5 hle' h1 h2 (.inr ⟨rfl, rfl⟩)
      omega
    have h26 : cnt com 2 ≤ cnt com 6 := cnt_le com 2 6 (fun z => and_sub z 2 6 rfl)
    have h46 : cnt com 4 ≤ cnt com 6 := cnt_le com 4 6 (fun z => and_sub z 4 6 rfl)
    have h15 : cnt com 1 ≤ cnt com 5 := cnt_le com 1 5 (fun z => and_sub z 1 5 rfl)
    have h45 : cnt com 4 ≤ cnt com 5 := cnt_le com 4 5 (fun z => and_sub z 4 5 rfl)
    -- choice 1 decided here: 2 never later, and the other way
    have hn2 : q ≤ cnt com 1 → nextC pre com q 2 = false := by
      intro h
      have e : ((2 : Nat) ||| 4) = 6 := rfl
      have a : ¬ q ≤ cnt com 6 := fun h' => hA ⟨h, h'⟩
      have b : ¬ q ≤ cnt com 4 := fun h' => a (Nat.le_trans h' h46)
      simp [nextC, e, a, b]
    have hn1 : q ≤ cnt com 2 → nextC pre com q 1 = false := by
      intro h
      have e : ((1 : Nat) ||| 4) = 5 := rfl
      have a : ¬ q ≤ cnt com 5 := fun h' => hB ⟨h, h'⟩
      have b : ¬ q ≤ cnt com 4 := fun h' => a (Nat.le_trans h' h45)
      simp [nextC, e, a, b]
    have hrest : ∀ d : Bool × Bool, (q ≤ cnt com 1 → d.2 = false) → (q ≤ cnt com 2 → d.1 = false) → ¬ (d.1 = true ∧ d.2 = true) → ¬ ((decide (q ≤ cnt com 1) || d.1) = true ∧ (decide (q ≤ cnt com 2) || d.2) = true) := by
      intro d k1 k2 k3
      by_cases c1 : q ≤ cnt com 1
      · have c2 : ¬ q ≤ cnt com 2 := fun h => hA ⟨c1, Nat.le_trans h h26⟩
        simp [c2, k1 c1]
      · by_cases c2 : q ≤ cnt com 2
        · simp [c1, k2 c2]
        · simp only [c1, c2, decide_false, Bool.false_or]
          exact k3
    cases pres with
    | nil =>
      have : cs = [] := by
        cases cs with
        | nil => rfl
        | cons _ _ => simp at hlen
      subst this
      simp only [dec, hcom]
      exact hrest (dec q pre [] []) (fun _ => rfl) (fun _ => rfl) (by simp [dec])
    | cons p ps =>
      simp only [dec, hcom]
      refine hrest _ (fun h => ?_) (fun h => ?_) (ih _ _ (by simpa using hlen) (fun l hl => hall l (by simp [hl])))
      · have := dec_never q 2 hq (.inr rfl) cs (keep p (nxt pre com q)) ps (cnt_keep_zero _ _ _ (nxt_without pre com q 2 (hn2 h) (.inr rfl)))
        simpa using this
      · have := dec_never q 1 hq (.inl rfl) cs (keep p (nxt pre com q)) ps (cnt_keep_zero _ _ _ (nxt_without pre com q 1 (hn1 h) (.inl rfl)))
        simpa using this

theorem quorum_pos {n : Nat} (h : 1 ≤ n) : 1 ≤ quorum n := by unfold quorum; omega

/-- A fork convicts at least 2 q - n members. -/
theorem forks (n : Nat) (pre com : List (List Nat)) (hv : Valid n pre com) (h : (decT n pre com).1 = true ∧ (decT n pre com).2 = true) : 2 * quorum n ≤ n + nconf n pre com := by
  apply Decidable.byContradiction
  intro hlt
  cases pre with
  | nil => simp [decT] at h
  | cons p ps =>
    refine dec_one n (quorum n) (quorum_pos hv.n1) com p ps (by have := hv.len; simpa using this) (fun l hl => ?_) h
    have hr := hv.c l hl
    refine ⟨hr, ?_⟩
    have : l.countP two ≤ nconf n (p :: ps) com := by
      rw [countP_range two 0 l, hr.1]
      refine countP_le_of_imp fun m _ hm => ?_
      unfold conf
      rw [Bool.or_eq_true]
      right
      exact List.any_eq_true.2 ⟨l, hl, hm⟩
    omega

theorem third_le (n : Nat) (h : 1 ≤ n) (k : Nat) (hk : 2 * quorum n ≤ n + k) : third n ≤ k := by unfold third; unfold quorum at hk; omega

end Go.Proofs.Ytmoemalkojckaaa.JM
