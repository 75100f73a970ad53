import Derived.Test.YtmoemalkojckaaaProg
import Derived.Below
import Derived.Deep.Draws
import Derived.Deep.AppendLies
import Derived.OwnWalk
import Derived.Laws.MakeOwn
import Derived.Laws.OwnMore
import Derived.Deep.OwnRows
import Derived.Tactics
import Derived.Laws.Slices
import Derived.WalkKit
import Derived.KernelRfl
import Derived.RowKit3
import Derived.Deep.LoopGhost
import Derived.Deep.QuietTactic
import Derived.BigQuiet
import Derived.Deep.DeepCutAuto
import Derived.Deep.CutBlock
import Derived.Deep.RegionHeld3
import Derived.Laws.Rows
import Derived.Laws.BitsLemmas
import Derived.RowKit
import Derived.Lib.Hide
import Derived.WalkLawsBesides
import Derived.WalkSpells
import Derived.Deep.DeepFit
import Derived.Test.YtmoemalkojckaaaR1
namespace Go.Proofs.Ytmoemalkojckaaa.J
open Go.RowKit
set_option linter.unusedVariables false
set_option linter.unusedSimpArgs false

theorem fitRow_all (n : Nat) (hi : Int) (l : List Int) (hl : l.length = n) (h : ∀ x, x < n → 0 ≤ l.getD x 0 ∧ l.getD x 0 ≤ hi) : fitRow n hi l = true := by
  unfold fitRow
  rw [all_of _ 0 l (fun x hx => by have := h x (by omega); simp only [Bool.and_eq_true, decide_eq_true_eq]; exact this)]
  simp [hl]
theorem fitRow_no (n : Nat) (hi : Int) (l : List Int) (j : Nat) (hj : j < l.length) (h : ¬ (0 ≤ l.getD j 0 ∧ l.getD j 0 ≤ hi)) : fitRow n hi l = false := by
  unfold fitRow
  rw [not_all _ 0 l j hj (by rw [← Bool.not_eq_true, Bool.and_eq_true, decide_eq_true_eq, decide_eq_true_eq]; exact h)]
  simp
theorem fitRow_len (n : Nat) (hi : Int) (l : List Int) (h : l.length ≠ n) : fitRow n hi l = false := by unfold fitRow; simp [h]

/-- Both tables up to round k. -/
def okK (pre com : List (List Int)) (n k : Nat) : Prop := ∀ j, j < k → fitRow n 3 (pre.getD j []) = true ∧ fitRow n 7 (com.getD j []) = true
def okM (l l2 : List Int) (k : Nat) : Prop := ∀ j, j < k → (0 ≤ l.getD j 0 ∧ l.getD j 0 ≤ 3) ∧ (0 ≤ l2.getD j 0 ∧ l2.getD j 0 ≤ 7)

set_option maxHeartbeats 3200000 in
set_option maxRecDepth 100000 in
theorem rvalid_loop (pre com : List (List Int)) (A0 A1 : Option Addr) (c0 c1 : Nat) (w : World) (ht : Tab w A0 A1 pre com) (R n : Nat) (hR : pre.length = R) (hC : com.length = R) (hR1 : 1 ≤ R) (hR3 : R ≤ 3) (hn : (pre.getD 0 []).length = n) (hn1 : 1 ≤ n) (hn7 : n ≤ 7) :
    Calls Try.prog 14 #[.agg #[.slice A0 R c0, .slice A1 R c1]] w fun e w' => e = .returned (.bool (fitsB pre n 3 && fitsB com n 7)) ∧ Below w.heap.size w w' := by
  have hbel : Below w.heap.size w (w.alloc (.cells #[.slice A0 R c0, .slice A1 R c1] 28)) := (Below.refl _ _).alloc (Nat.le_refl _) _
  have hbox := Blk.new w #[.slice A0 R c0, .slice A1 R c1] 28
  obtain ⟨W1, hW1⟩ : ∃ W1, w.alloc (.cells #[.slice A0 R c0, .slice A1 R c1] 28) = W1 := ⟨_, rfl⟩
  rw [hW1] at hbel hbox
  have HT := Lib.hid (ht.below hbel)
  obtain ⟨b0, o0, A', c', e0, hcell, -⟩ := HT.out.p 0 (by omega)
  rw [hn, Nat.add_zero] at hcell
  have bx0 := hbox.cell 0 rfl
  have bx1 := hbox.cell 1 rfl
  have HN := Lib.hid hn
  have HR := Lib.hid hR
  have HC := Lib.hid hC
  have HB := Lib.hid hbel
  have HW := Lib.hid hW1
  obtain ⟨res, hres⟩ : ∃ r, (fitsB pre n 3 && fitsB com n 7) = r := ⟨_, rfl⟩
  rw [hres]
  have HRES := Lib.hid hres
  have hbad : ∀ j, j < R → (fitRow n 3 (pre.getD j []) = false ∨ fitRow n 7 (com.getD j []) = false) → false = res := by
    intro j hj h
    rw [← HRES.out]
    rcases h with h | h
    · have : fitsB pre n 3 = false := not_all _ [] pre j (by rw [HR.out]; exact hj) h
      rw [this]; rfl
    · have : fitsB com n 7 = false := not_all _ [] com j (by rw [HC.out]; exact hj) h
      rw [this]; simp
  have HBAD := Lib.hid hbad
  have tneq : ((R : Int) != (R : Int)) = false := by simp
  clear hn hR hC hbel ht hres hbad hbox HW
  subst e0
  go_enter Try.func14, Try.ntmps14
  go_wp2_with fail
  clear hW1
  go_loop [4] (fun i => ∃ k : Nat, k ≤ R ∧ i = .int .i64 k ∧ Hid (okK pre com n k)) (fun i => R - (intOf i).toNat)
  case atStart => exact ⟨0, by omega, rfl, fun j hj => by omega⟩
  case round =>
    obtain ⟨k, hk, rfl, hA⟩ := hrel
    by_cases hlt : k < R
    · have hkI : decide ((k : Int) < (R : Int)) = true := decide_eq_true (by omega)
      obtain ⟨b2, o2, A2, c2, e2, hc2, hR2⟩ := HT.out.p k (by rw [HR.out]; exact hlt)
      obtain ⟨b3, o3, A3, c3, e3, hc3, hR3'⟩ := HT.out.c k (by rw [HC.out]; exact hlt)
      injection e2 with e2
      injection e2 with e2 e2'
      subst e2 e2'
      subst e3
      obtain ⟨l, hl⟩ : ∃ l, pre.getD k [] = l := ⟨_, rfl⟩
      obtain ⟨l2, hl2⟩ : ∃ l, com.getD k [] = l := ⟨_, rfl⟩
      have hm1 := HT.out.rp k
      have hm2 := HT.out.rc k
      rw [hl] at hc2 hR2 hm1
      rw [hl2] at hc3 hR3' hm2
      have HL := Lib.hid hl
      have HL2 := Lib.hid hl2
      clear hl hl2
      obtain ⟨m, hm⟩ : ∃ m, l.length = m := ⟨_, rfl⟩
      obtain ⟨m2, hmm2⟩ : ∃ m, l2.length = m := ⟨_, rfl⟩
      rw [hm] at hc2 hm1
      rw [hmm2] at hc3 hm2
      have HM := Lib.hid hm
      have HM2 := Lib.hid hmm2
      clear hm hmm2
      by_cases h1 : m = n
      · subst h1
        have t1 : ((m : Int) != (m : Int)) = false := by simp
        by_cases h2 : m2 = m
        · subst h2
          go_wp2_with fail
          go_loop [5] (fun i => ∃ j : Nat, j ≤ m2 ∧ i = .int .i64 j ∧ Hid (okM l l2 j)) (fun i => m2 - (intOf i).toNat)
          case atStart => exact ⟨0, by omega, rfl, fun j hj => by omega⟩
          case round =>
            obtain ⟨j, hj, rfl, hJ⟩ := hrel
            by_cases hlt2 : j < m2
            · have hjI : decide ((j : Int) < (m2 : Int)) = true := decide_eq_true (by omega)
              obtain ⟨b4, o4, rfl, hc4⟩ := hR2 j (by rw [HM.out]; exact hlt2)
              obtain ⟨b5, o5, rfl, hc5⟩ := hR3' j (by rw [HM2.out]; exact hlt2)
              obtain ⟨x, hx⟩ : ∃ x, l.getD j 0 = x := ⟨_, rfl⟩
              obtain ⟨y, hy⟩ : ∃ x, l2.getD j 0 = x := ⟨_, rfl⟩
              rw [hx] at hc4
              rw [hy] at hc5
              have HX := Lib.hid hx
              have HY := Lib.hid hy
              clear hx hy
              by_cases x0 : x < 0
              · have HQ := Lib.hid (HBAD.out k hlt (.inl (by rw [HL.out]; exact fitRow_no _ _ _ j (by rw [HM.out]; exact hlt2) (by rw [HX.out]; omega))))
                go_wp2
                go_ret
                exact ⟨ret_bool HQ.out, HB.out⟩
              · by_cases x3 : 3 < x
                · have HQ := Lib.hid (HBAD.out k hlt (.inl (by rw [HL.out]; exact fitRow_no _ _ _ j (by rw [HM.out]; exact hlt2) (by rw [HX.out]; omega))))
                  go_wp2
                  go_ret
                  exact ⟨ret_bool HQ.out, HB.out⟩
                · by_cases y0 : y < 0
                  · have HQ := Lib.hid (HBAD.out k hlt (.inr (by rw [HL2.out]; exact fitRow_no _ _ _ j (by rw [HM2.out]; exact hlt2) (by rw [HY.out]; omega))))
                    go_wp2
                    go_ret
                    exact ⟨ret_bool HQ.out, HB.out⟩
                  · by_cases y7 : 7 < y
                    · have HQ := Lib.hid (HBAD.out k hlt (.inr (by rw [HL2.out]; exact fitRow_no _ _ _ j (by rw [HM2.out]; exact hlt2) (by rw [HY.out]; omega))))
                      go_wp2
                      go_ret
                      exact ⟨ret_bool HQ.out, HB.out⟩
                    · have hJ2 : okM l l2 (j + 1) := by
                        intro i hi
                        by_cases e : i = j
                        · subst e; rw [HX.out, HY.out]; omega
                        · exact hJ.out i (by omega)
                      have HJ2 := Lib.hid hJ2
                      clear hJ hJ2
                      go_wp2
                      go_round
                      case rel => exact ⟨j + 1, by omega, by go_num, HJ2.out⟩
                      case measure => simp [intOf]; omega
            · obtain rfl : j = m2 := by omega
              have hA2 : okK pre com j (k + 1) := by
                intro i hi
                by_cases e : i = k
                · subst e
                  rw [HL.out, HL2.out]
                  exact ⟨fitRow_all _ _ _ HM.out (fun x hx => (hJ.out x hx).1), fitRow_all _ _ _ HM2.out (fun x hx => (hJ.out x hx).2)⟩
                · exact hA.out i (by omega)
              have HA2 := Lib.hid hA2
              clear hA hA2 hJ
              go_wp2
              go_round
              case rel => exact ⟨k + 1, by omega, by go_num, HA2.out⟩
              case measure => simp [intOf]; omega
        · have t2 : ((m2 : Int) != (m : Int)) = true := by rw [bne_iff_ne]; omega
          have HQ := Lib.hid (HBAD.out k hlt (.inr (by rw [HL2.out]; exact fitRow_len _ _ _ (by rw [HM2.out]; exact h2))))
          clear h2
          go_wp2
          go_ret
          exact ⟨ret_bool HQ.out, HB.out⟩
      · have t1 : ((m : Int) != (n : Int)) = true := by rw [bne_iff_ne]; omega
        have HQ := Lib.hid (HBAD.out k hlt (.inl (by rw [HL.out]; exact fitRow_len _ _ _ (by rw [HM.out]; exact h1))))
        clear h1
        go_wp2
        go_ret
        exact ⟨ret_bool HQ.out, HB.out⟩
    · obtain rfl : k = R := by omega
      have hres : true = res := by
        rw [← HRES.out]
        have a1 : fitsB pre n 3 = true := all_of _ [] pre (fun j hj => (hA.out j (by rw [← HR.out]; exact hj)).1)
        have a2 : fitsB com n 7 = true := all_of _ [] com (fun j hj => (hA.out j (by rw [← HC.out]; exact hj)).2)
        rw [a1, a2]; rfl
      have HQ := Lib.hid hres
      clear hres
      go_wp2
      go_ret
      exact ⟨ret_bool HQ.out, HB.out⟩

set_option maxHeartbeats 1600000 in
set_option maxRecDepth 100000 in
theorem rvalid_calls (pre com : List (List Int)) (A0 A1 : Option Addr) (c0 c1 : Nat) (w : World) (ht : Tab w A0 A1 pre com) :
    Calls Try.prog 14 #[.agg #[.slice A0 pre.length c0, .slice A1 com.length c1]] w fun e w' => e = .returned (.bool (validB pre com)) ∧ Below w.heap.size w w' := by
  have hbel : Below w.heap.size w (w.alloc (.cells #[.slice A0 pre.length c0, .slice A1 com.length c1] 28)) := (Below.refl _ _).alloc (Nat.le_refl _) _
  have HV := Lib.hid (show validB pre com = (decide (1 ≤ pre.length) && decide (pre.length ≤ 3) && decide (com.length = pre.length) && decide (1 ≤ (pre.getD 0 []).length) && decide ((pre.getD 0 []).length ≤ 7) && fitsB pre (pre.getD 0 []).length 3 && fitsB com (pre.getD 0 []).length 7) from rfl)
  have lp := ht.lp
  have lc := ht.lc
  by_cases hcl : com.length = pre.length
  · by_cases h1 : 1 ≤ pre.length
    · by_cases h3 : pre.length ≤ 3
      · by_cases hn1 : 1 ≤ (pre.getD 0 []).length
        · by_cases hn7 : (pre.getD 0 []).length ≤ 7
          · have h := rvalid_loop pre com A0 A1 c0 c1 w ht _ _ rfl hcl h1 h3 rfl hn1 hn7
            have hres : validB pre com = (fitsB pre (pre.getD 0 []).length 3 && fitsB com (pre.getD 0 []).length 7) := by rw [HV.out, decide_eq_true h1, decide_eq_true h3, decide_eq_true hcl, decide_eq_true hn1, decide_eq_true hn7]; rfl
            rw [hres, hcl]
            exact h
          · have hres : validB pre com = false := by rw [HV.out, decide_eq_false hn7]; simp
            obtain ⟨b, off, A', c', e0, hcell, hR⟩ := (ht.below hbel).p 0 (by omega)
            have HQ := Lib.hid hres
            have HB := Lib.hid hbel
            have m0 := ht.rp 0
            rw [Nat.add_zero] at hcell
            rw [hcl]
            rw [hcl] at hcell HB
            obtain ⟨R, hR'⟩ : ∃ R, pre.length = R := ⟨_, rfl⟩
            obtain ⟨n, hn'⟩ : ∃ n, (pre.getD 0 []).length = n := ⟨_, rfl⟩
            rw [hR'] at hcell HB h1 h3 lp ⊢
            rw [hn'] at hcell hn1 hn7 m0
            have tneq : ((R : Int) != (R : Int)) = false := by simp
            clear hres hbel hR hcl hR' hn'
            subst e0
            go_enter Try.func14, Try.ntmps14
            go_wp2
            go_ret
            exact ⟨ret_bool HQ.out.symm, HB.out⟩
        · have hres : validB pre com = false := by rw [HV.out, decide_eq_false hn1]; simp
          obtain ⟨b, off, A', c', e0, hcell, hR⟩ := (ht.below hbel).p 0 (by omega)
          have HQ := Lib.hid hres
          have HB := Lib.hid hbel
          rw [Nat.add_zero] at hcell
          rw [hcl]
          rw [hcl] at hcell HB
          obtain ⟨R, hR'⟩ : ∃ R, pre.length = R := ⟨_, rfl⟩
          obtain ⟨n, hn'⟩ : ∃ n, (pre.getD 0 []).length = n := ⟨_, rfl⟩
          rw [hR'] at hcell HB h1 h3 lp ⊢
          rw [hn'] at hcell hn1
          have tneq : ((R : Int) != (R : Int)) = false := by simp
          clear hres hbel hR hcl hR' hn'
          subst e0
          go_enter Try.func14, Try.ntmps14
          go_wp2
          go_ret
          exact ⟨ret_bool HQ.out.symm, HB.out⟩
      · have hres : validB pre com = false := by rw [HV.out]; simp [h3]
        have HQ := Lib.hid hres
        have HB := Lib.hid hbel
        rw [hcl]
        rw [hcl] at HB
        obtain ⟨R, hR'⟩ : ∃ R, pre.length = R := ⟨_, rfl⟩
        rw [hR'] at HB h1 h3 lp ⊢
        have tneq : ((R : Int) != (R : Int)) = false := by simp
        clear hres hbel hcl hR'
        go_enter Try.func14, Try.ntmps14
        go_wp2
        go_ret
        exact ⟨ret_bool HQ.out.symm, HB.out⟩
    · have hres : validB pre com = false := by rw [HV.out]; simp [h1]
      have HQ := Lib.hid hres
      have HB := Lib.hid hbel
      rw [hcl]
      rw [hcl] at HB
      obtain ⟨R, hR'⟩ : ∃ R, pre.length = R := ⟨_, rfl⟩
      rw [hR'] at HB h1 lp ⊢
      have tneq : ((R : Int) != (R : Int)) = false := by simp
      clear hres hbel hcl hR'
      go_enter Try.func14, Try.ntmps14
      go_wp2
      go_ret
      exact ⟨ret_bool HQ.out.symm, HB.out⟩
  · have tneq : (((pre.length : Nat) : Int) != ((com.length : Nat) : Int)) = true := by rw [bne_iff_ne]; omega
    have hres : validB pre com = false := by rw [HV.out]; simp [hcl]
    have HQ := Lib.hid hres
    have HB := Lib.hid hbel
    clear hres hbel hcl
    go_enter Try.func14, Try.ntmps14
    go_wp2
    go_ret
    exact ⟨ret_bool HQ.out.symm, HB.out⟩

end Go.Proofs.Ytmoemalkojckaaa.J
