import Derived.Test.YtmoemalkojckaaaProg
import Derived.Below
import Derived.Deep.Draws
import Derived.Deep.AppendLies
import Derived.OwnWalk
import Derived.Laws.MakeOwn
import Derived.Laws.OwnMore
import Derived.Deep.OwnRows
import Derived.Tactics
import Derived.Laws.Slices
import Derived.WalkKit
import Derived.KernelRfl
import Derived.RowKit3
import Derived.Deep.LoopGhost
import Derived.Deep.QuietTactic
import Derived.BigQuiet
import Derived.Deep.DeepCutAuto
import Derived.Deep.CutBlock
import Derived.Deep.RegionHeld3
import Derived.Laws.Rows
import Derived.Laws.BitsLemmas
import Derived.RowKit
import Derived.Lib.Hide
import Derived.WalkLawsBesides
import Derived.WalkSpells
import Derived.Deep.DeepFit
import Derived.Test.YtmoemalkojckaaaJ24
import Derived.Test.YtmoemalkojckaaaJ21
namespace Go.Proofs.Ytmoemalkojckaaa.J
open Go.RowKit
set_option linter.unusedVariables false
set_option linter.unusedSimpArgs false

theorem shP_length (tape : List Int) (n k : Nat) : (shP tape n k).length = k := by simp [shP]
theorem shC_length (tape : List Int) (n k : Nat) : (shC tape n k).length = k := by simp [shC]

/-- A shape as an argument. -/
theorem shape_at (a b : Int) (tape : List Int) (cap : Nat) (A : Option Addr) (w : World) (htl : tape.length ≤ 9223372036854775807) (hR : RowAt w A tape) :
    Calls Try.prog 20 #[.int .i64 a, .int .i64 b, .slice A tape.length cap] w fun e w' => ∃ A0 A1 c0 c1, e = .returned (.agg #[.slice A0 (kOf b) c0, .slice A1 (kOf b) c1]) ∧
      Tab w' A0 A1 (itab (shP tape (nOf a) (kOf b))) (itab (shC tape (nOf a) (kOf b))) ∧ Below w.heap.size w w' := by
  refine (shape_calls a b tape cap A w htl hR).mono ?_
  rintro e w' ⟨vP, vC, gP, gC, rfl, hP, hC, _, hb⟩
  have hk := kOf_le b
  have hn := nOf_le a
  obtain ⟨A0, c0, rfl, t0, b0⟩ := hP.tab (by rw [shP_length]; omega)
  obtain ⟨A1, c1, rfl, t1, b1⟩ := hC.tab (by rw [shC_length]; omega)
  rw [shP_length, shC_length]
  refine ⟨A0, A1, c0, c1, rfl, ⟨t0, t1, ?_, ?_, fun r => ?_, fun r => ?_⟩, hb⟩
  · rw [itab_length, shP_length]; omega
  · rw [itab_length, shC_length]; omega
  · have := b0 r; omega
  · have := b1 r; omega

set_option maxHeartbeats 3200000 in
set_option maxRecDepth 100000 in
theorem forks_calls (a b : Int) (tape : List Int) (cap : Nat) (A : Option Addr) (w : World) (htl : tape.length ≤ 9223372036854775807) (hR : RowAt w A tape) :
    Calls Try.prog 8 #[.int .i64 a, .int .i64 b, .slice A tape.length cap] w fun e w' => e = .returned (.bool true) ∧ Below w.heap.size w w' := by
  have hk := kOf_le b
  have hn := nOf_le a
  have hv := shape_valid tape (nOf a) (kOf b) hn.1 hn.2 hk.1 hk.2
  have HSH := Lib.hid (shape_at a b tape cap A w htl hR)
  have lP := shP_length tape (nOf a) (kOf b)
  have lC := shC_length tape (nOf a) (kOf b)
  generalize nOf a = n at *
  generalize kOf b = k at *
  generalize shP tape n k = P at *
  generalize shC tape n k = C at *
  have HDEC := Lib.hid (fun A0 A1 c0 c1 wx (hx : Tab wx A0 A1 (itab P) (itab C)) => decidable_calls P C n hv A0 A1 c0 c1 wx hx (validB_of hv))
  have HVAL := Lib.hid (fun A0 A1 c0 c1 wx (hx : Tab wx A0 A1 (itab P) (itab C)) => valid_calls (itab P) (itab C) A0 A1 c0 c1 wx hx)
  have HCON := Lib.hid (fun A0 A1 c0 c1 wx (hx : Tab wx A0 A1 (itab P) (itab C)) => conflicted_calls P C n hv A0 A1 c0 c1 wx hx (validB_of hv))
  rw [itab_length, itab_length, validB_of hv, lP, lC] at HVAL
  rw [lP, lC] at HDEC HCON
  have hcn := nconf_mask hv
  have hmk2 : maskOf 7 (JM.conf P C) < 1024 := Nat.lt_of_lt_of_le (maskOf_lt 7 _) (by decide)
  have HSZ := Lib.hid (fun wx => size_calls (maskOf 7 (JM.conf P C)) hmk2 wx)
  rw [hcn] at HSZ
  have hfk := JM.forks n P C hv
  have hp0 : (P.getD 0 []).length = n := by
    have h0 : 0 < P.length := by rw [lP]; omega
    have e : P.getD 0 [] = P[0] := by simp [List.getD, h0]
    rw [e]; exact (hv.p _ (List.getElem_mem _)).1
  have hncn : JM.nconf n P C ≤ n := Nat.le_trans List.countP_le_length (by simp)
  have HQ := Lib.hid (fun wx => quorum_calls n hn.1 (by omega) wx)
  have HTH := Lib.hid (fun wx => third_calls n hn.1 (by omega) wx)
  have hth := JM.third_le n hn.1
  obtain ⟨mm, hmm⟩ : ∃ c, maskOf 7 (JM.conf P C) = c := ⟨_, rfl⟩
  rw [hmm] at HCON HSZ
  obtain ⟨x, hx⟩ : ∃ a, (JM.decT n P C).1 = a := ⟨_, rfl⟩
  obtain ⟨y, hy⟩ : ∃ b, (JM.decT n P C).2 = b := ⟨_, rfl⟩
  rw [hx, hy] at HDEC hfk
  obtain ⟨cc, hcc⟩ : ∃ c, JM.nconf n P C = c := ⟨_, rfl⟩
  rw [hcc] at HSZ hfk hncn
  obtain ⟨q, hq⟩ : ∃ q, JM.quorum n = q := ⟨_, rfl⟩
  have hqn : q ≤ n := by rw [← hq]; unfold JM.quorum; omega
  obtain ⟨th, hthd⟩ : ∃ t, JM.third n = t := ⟨_, rfl⟩
  rw [hthd] at HTH hth
  rw [hq] at hfk HQ
  have hth2 : 2 * q ≤ n + cc → th ≤ cc := fun h => hth cc (by rw [hq]; exact h)
  have thn : th ≤ 100 := by rw [← hthd]; unfold JM.third; omega
  have HP0 := Lib.hid hp0
  have HLP := Lib.hid lP
  have HFK := Lib.hid hfk
  have HTH2 := Lib.hid hth2
  have HAW := Lib.hid awake_calls
  have hn1 := hn.1
  have hn7 := hn.2
  have hk1 := hk.1
  have hk3 := hk.2
  clear hn hk hv lP lC hcn hmk2 hfk hp0 hth hth2 hmm hx hy hcc hq hthd hR htl
  go_enter Try.func8, Try.ntmps8
  go_wp2_with fail
  refine (HSH.out).mono ?_
  rintro e w1 ⟨A0, A1, c0, c1, rfl, htab, hb1⟩
  obtain ⟨b0, off0, A', c', rfl, hc0, -⟩ := htab.p 0 (by rw [itab_length, HLP.out]; omega)
  rw [itab_getD, ints_length, HP0.out, Nat.add_zero] at hc0
  have hs1 := hb1.size
  have hal : Below w1.heap.size w1 (w1.alloc (.cells #[.slice (some ⟨b0, off0, none⟩) k c0, .slice A1 k c1] 24)) := (Below.refl _ _).alloc (Nat.le_refl _) _
  have hbx := Blk.new w1 #[.slice (some ⟨b0, off0, none⟩) k c0, .slice A1 k c1] 24
  have hc2 := cell_of_below hal hc0
  have HT2 := Lib.hid (htab.below hal)
  have HB2 := Lib.hid (hb1.trans (hal.mono hs1))
  have HBX := Lib.hid hbx
  have HC2 := Lib.hid hc2
  clear htab hb1 hal hbx hc0 hc2
  go_wp2_with fail
  refine (HDEC.out _ _ _ _ _ HT2.out).mono ?_
  rintro e w3 ⟨rfl, hb3⟩
  have hbx3 := HBX.out.below hb3 (by simp)
  have x0 := hbx3.cell 0 rfl
  have x1 := hbx3.cell 1 rfl
  have hc3 := cell_of_below hb3 HC2.out
  have HT3 := Lib.hid (HT2.out.below hb3)
  have HB3 := Lib.hid (HB2.out.trans (hb3.mono HB2.out.size))
  have HBX3 := Lib.hid hbx3
  clear hb3 HT2 HB2 HBX HC2 hbx3
  go_wp2_with fail
  refine (HVAL.out _ _ _ _ _ HT3.out).mono ?_
  rintro e w4 ⟨rfl, hb4⟩
  have hbx4 := HBX3.out.below hb4 HBX3.out.lt
  have y0 := hbx4.cell 0 rfl
  have y1 := hbx4.cell 1 rfl
  have HT4 := Lib.hid (HT3.out.below hb4)
  have HB4 := Lib.hid (HB3.out.trans (hb4.mono HB3.out.size))
  clear hb4 HT3 HB3 HBX3 hbx4 x0 x1 hc3
  go_wp2_with fail
  refine (HCON.out _ _ _ _ _ HT4.out).mono ?_
  rintro e w5 ⟨rfl, hb5⟩
  have HB5 := Lib.hid (HB4.out.trans (hb5.mono HB4.out.size))
  have hs5 := HB5.out.size
  clear hb5 HT4 HB4 y0 y1
  go_wp2_with fail
  refine (HSZ.out _).mono ?_
  rintro e w' ⟨rfl, rfl⟩
  cases x with
  | false =>
    go_wp2_with fail
    refine (HAW.out _).mono ?_
    rintro e w6 ⟨rfl, hb6⟩
    have HB6 := Lib.hid (HB5.out.trans (hb6.mono hs5))
    clear hb6
    go_wp2
    go_ret
    exact ⟨rfl, HB6.out⟩
  | true =>
    cases y with
    | false =>
      go_wp2_with fail
      refine (HAW.out _).mono ?_
      rintro e w6 ⟨rfl, hb6⟩
      have HB6 := Lib.hid (HB5.out.trans (hb6.mono hs5))
      clear hb6
      go_wp2
      go_ret
      exact ⟨rfl, HB6.out⟩
    | true =>
      have h2 : 2 * q ≤ n + cc := HFK.out ⟨rfl, rfl⟩
      have h3 : th ≤ cc := HTH2.out h2
      have g1 : decide ((cc : Int) ≥ 2 * (q : Int) - (n : Int)) = true := decide_eq_true (by omega)
      have g2 : decide ((cc : Int) ≥ (th : Int)) = true := decide_eq_true (by omega)
      go_wp2_with fail
      refine (HQ.out _).mono ?_
      rintro e w' ⟨rfl, rfl⟩
      go_wp2_with fail
      refine (HTH.out _).mono ?_
      rintro e w' ⟨rfl, rfl⟩
      go_wp2_with fail
      refine (HAW.out _).mono ?_
      rintro e w6 ⟨rfl, hb6⟩
      have HB6 := Lib.hid (HB5.out.trans (hb6.mono hs5))
      clear hb6
      go_wp2
      go_ret
      exact ⟨rfl, HB6.out⟩

end Go.Proofs.Ytmoemalkojckaaa.J
