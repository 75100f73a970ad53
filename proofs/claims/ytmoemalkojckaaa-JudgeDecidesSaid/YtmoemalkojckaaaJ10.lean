import Derived.Test.YtmoemalkojckaaaProg
import Derived.Below
import Derived.Deep.Draws
import Derived.Deep.AppendLies
import Derived.OwnWalk
import Derived.Laws.MakeOwn
import Derived.Laws.OwnMore
import Derived.Deep.OwnRows
import Derived.Tactics
import Derived.Laws.Slices
import Derived.WalkKit
import Derived.KernelRfl
import Derived.RowKit3
import Derived.Deep.LoopGhost
import Derived.Deep.QuietTactic
import Derived.BigQuiet
import Derived.Deep.DeepCutAuto
import Derived.Deep.CutBlock
import Derived.Deep.RegionHeld3
import Derived.Laws.Rows
import Derived.Laws.BitsLemmas
import Derived.RowKit
import Derived.Lib.Hide
import Derived.WalkLawsBesides
import Derived.WalkSpells
import Derived.Deep.DeepFit
import Derived.Test.YtmoemalkojckaaaJ9
namespace Go.Proofs.Ytmoemalkojckaaa.J
open Go.RowKit
set_option linter.unusedVariables false
set_option linter.unusedSimpArgs false

/-- A table's argument. -/
structure Tab (w : World) (A0 A1 : Option Addr) (pre com : List (List Int)) : Prop where
  p : TabAt w A0 pre
  c : TabAt w A1 com
  lp : pre.length ≤ 9223372036854775807
  lc : com.length ≤ 9223372036854775807
  rp : ∀ r, (pre.getD r []).length ≤ 9223372036854775807
  rc : ∀ r, (com.getD r []).length ≤ 9223372036854775807
theorem Tab.below {w w' : World} {A0 A1 : Option Addr} {pre com : List (List Int)} (h : Tab w A0 A1 pre com) (hb : Below w.heap.size w w') : Tab w' A0 A1 pre com :=
  ⟨h.p.below hb, h.c.below hb, h.lp, h.lc, h.rp, h.rc⟩
def tabV (A0 A1 : Option Addr) (n0 c0 n1 c1 : Nat) : Value := .agg #[.slice A0 n0 c0, .slice A1 n1 c1]

set_option maxHeartbeats 1600000 in
set_option maxRecDepth 100000 in
theorem valid_calls (pre com : List (List Int)) (A0 A1 : Option Addr) (c0 c1 : Nat) (w : World) (ht : Tab w A0 A1 pre com) :
    Calls Try.prog 13 #[.agg #[.slice A0 pre.length c0, .slice A1 com.length c1]] w fun e w' => e = .returned (.bool (validB pre com)) ∧ Below w.heap.size w w' := by
  obtain ⟨hP, hC, lp, lc, rp, rc⟩ := ht
  have hbel : Below w.heap.size w (w.alloc (.cells #[.slice A0 pre.length c0, .slice A1 com.length c1] 24)) := (Below.refl _ _).alloc (Nat.le_refl _) _
  have HV := Lib.hid (show validB pre com = (decide (1 ≤ pre.length) && decide (pre.length ≤ 3) && decide (com.length = pre.length) && decide (1 ≤ (pre.getD 0 []).length) && decide ((pre.getD 0 []).length ≤ 7) && fitsB pre (pre.getD 0 []).length 3 && fitsB com (pre.getD 0 []).length 7) from rfl)
  by_cases h1 : 1 ≤ pre.length
  · by_cases h3 : pre.length ≤ 3
    · by_cases hcl : com.length = pre.length
      · obtain ⟨b, off, A', c', e0, hcell, hR⟩ := hP 0 (by omega)
        have hcl' : (((com.length : Nat) : Int) != ((pre.length : Nat) : Int)) = false := by rw [hcl]; simp
        have hb : b < w.heap.size := World.block_lt_of_cell? w _ hcell
        have hcell2 : (w.alloc (.cells #[.slice A0 pre.length c0, .slice A1 com.length c1] 24)).cell? ⟨b, off, none⟩ = some (.slice A' (pre.getD 0 []).length c') := by
          have := hcell
          rw [Nat.add_zero] at this
          rw [World.cell?_alloc_past _ _ _ hb]; exact this
        have f3 := fun wx (hx : TabAt wx A0 pre) => fits_calls pre (pre.getD 0 []).length 3 c0 A0 wx lp rp (rp 0) hx
        have f7 := fun wx (hx : TabAt wx A1 com) => fits_calls com (pre.getD 0 []).length 7 c1 A1 wx lc rc (rp 0) hx
        have m0 := rp 0
        generalize (pre.getD 0 []).length = n at *
        by_cases hn1 : 1 ≤ n
        · by_cases hn7 : n ≤ 7
          · cases e3 : fitsB pre n 3
            · have hres : validB pre com = false := by rw [HV.out, e3]; simp
              have HQ := Lib.hid hres
              rw [e3] at f3
              have F3 := Lib.hid f3
              have HB := Lib.hid hbel
              have HP := Lib.hid (hP.below hbel)
              clear hres f3 f7 hP hC hbel hR e3
              generalize pre.length = len at *
              generalize com.length = len2 at *
              have HCL := Lib.hid hcl
              clear hcl hcell
              subst e0
              go_enter Try.func13, Try.ntmps13
              go_wp2_with fail
              refine (F3.out _ HP.out).mono ?_
              rintro e w' ⟨rfl, rfl⟩
              go_wp2
              go_ret
              exact ⟨ret_bool HQ.out.symm, HB.out⟩
            · have hres : validB pre com = fitsB com n 7 := by rw [HV.out, e3, hcl]; simp [h1, h3, hn1, hn7]
              have HQ := Lib.hid hres
              rw [e3] at f3
              have F3 := Lib.hid f3
              have F7 := Lib.hid f7
              have HB := Lib.hid hbel
              have HP := Lib.hid (hP.below hbel)
              have HCc := Lib.hid (hC.below hbel)
              clear hres f3 f7 hP hC hbel hR e3
              have HCL := Lib.hid hcl
              clear hcl hcell
              subst e0
              go_enter Try.func13, Try.ntmps13
              go_wp2_with fail
              refine (F3.out _ HP.out).mono ?_
              rintro e w' ⟨rfl, rfl⟩
              go_wp2_with fail
              refine (F7.out _ HCc.out).mono ?_
              rintro e w' ⟨rfl, rfl⟩
              go_wp2
              go_ret
              exact ⟨ret_bool HQ.out.symm, HB.out⟩
          · have hres : validB pre com = false := by rw [HV.out]; simp [hn7]
            have HQ := Lib.hid hres
            have HB := Lib.hid hbel
            clear hres f3 f7 hP hC hbel hR hcl hcell
            subst e0
            go_enter Try.func13, Try.ntmps13
            go_wp2
            go_ret
            exact ⟨ret_bool HQ.out.symm, HB.out⟩
        · have hres : validB pre com = false := by rw [HV.out]; simp [hn1]
          have HQ := Lib.hid hres
          have HB := Lib.hid hbel
          clear hres f3 f7 hP hC hbel hR hcl hcell
          subst e0
          go_enter Try.func13, Try.ntmps13
          go_wp2
          go_ret
          exact ⟨ret_bool HQ.out.symm, HB.out⟩
      · have hcl' : (((com.length : Nat) : Int) != ((pre.length : Nat) : Int)) = true := by rw [bne_iff_ne]; omega
        have hres : validB pre com = false := by rw [HV.out]; simp [hcl]
        have HQ := Lib.hid hres
        have HB := Lib.hid hbel
        clear hres hP hC hbel hcl
        go_enter Try.func13, Try.ntmps13
        go_wp2
        go_ret
        exact ⟨ret_bool HQ.out.symm, HB.out⟩
    · have hres : validB pre com = false := by rw [HV.out]; simp [h3]
      have HQ := Lib.hid hres
      have HB := Lib.hid hbel
      clear hres hP hC hbel
      go_enter Try.func13, Try.ntmps13
      go_wp2
      go_ret
      exact ⟨ret_bool HQ.out.symm, HB.out⟩
  · have hres : validB pre com = false := by rw [HV.out]; simp [h1]
    have HQ := Lib.hid hres
    have HB := Lib.hid hbel
    clear hres hP hC hbel
    go_enter Try.func13, Try.ntmps13
    go_wp2
    go_ret
    exact ⟨ret_bool HQ.out.symm, HB.out⟩

end Go.Proofs.Ytmoemalkojckaaa.J
