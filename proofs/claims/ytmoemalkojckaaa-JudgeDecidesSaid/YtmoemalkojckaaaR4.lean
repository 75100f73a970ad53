import Derived.Test.YtmoemalkojckaaaProg
import Derived.Below
import Derived.Deep.Draws
import Derived.Deep.AppendLies
import Derived.OwnWalk
import Derived.Laws.MakeOwn
import Derived.Laws.OwnMore
import Derived.Deep.OwnRows
import Derived.Tactics
import Derived.Laws.Slices
import Derived.WalkKit
import Derived.KernelRfl
import Derived.RowKit3
import Derived.Deep.LoopGhost
import Derived.Deep.QuietTactic
import Derived.BigQuiet
import Derived.Deep.DeepCutAuto
import Derived.Deep.CutBlock
import Derived.Deep.RegionHeld3
import Derived.Laws.Rows
import Derived.Laws.BitsLemmas
import Derived.RowKit
import Derived.Lib.Hide
import Derived.WalkLawsBesides
import Derived.WalkSpells
import Derived.Deep.DeepFit
import Derived.Test.YtmoemalkojckaaaR2
namespace Go.Proofs.Ytmoemalkojckaaa.J
open Go.RowKit
set_option linter.unusedVariables false
set_option linter.unusedSimpArgs false

set_option maxHeartbeats 800000 in
set_option maxRecDepth 100000 in
theorem rconflicted_bad (P C : List (List Int)) (A0 A1 : Option Addr) (c0 c1 : Nat) (w : World) (ht : Tab w A0 A1 P C) (hvB : validB P C = false) :
    Calls Try.prog 16 #[.agg #[.slice A0 P.length c0, .slice A1 C.length c1]] w fun e w' => e = .returned (.int .i64 0) ∧ Below w.heap.size w w' := by
  have hbel : Below w.heap.size w (w.alloc (.cells #[.slice A0 P.length c0, .slice A1 C.length c1] 28)) := (Below.refl _ _).alloc (Nat.le_refl _) _
  have HV := Lib.hid (fun wx (hx : Tab wx A0 A1 P C) => rvalid_calls P C A0 A1 c0 c1 wx hx)
  rw [hvB] at HV
  have HT := Lib.hid (ht.below hbel)
  have HB := Lib.hid hbel
  clear ht hvB hbel
  go_enter Try.func16, Try.ntmps16
  go_wp2_with fail
  refine (HV.out _ HT.out).mono ?_
  rintro e w2 ⟨rfl, hb2⟩
  have HB2 := Lib.hid (HB.out.trans (hb2.mono (by simp)))
  clear hb2
  go_wp2
  go_ret
  exact ⟨rfl, HB2.out⟩

set_option maxHeartbeats 3200000 in
set_option maxRecDepth 100000 in
theorem rconflicted_calls (pre com : List (List Nat)) (n : Nat) (hv : JM.Valid n pre com) (A0 A1 : Option Addr) (c0 c1 : Nat) (w : World) (ht : Tab w A0 A1 (itab pre) (itab com)) (hvB : validB (itab pre) (itab com) = true) :
    Calls Try.prog 16 #[.agg #[.slice A0 pre.length c0, .slice A1 com.length c1]] w fun e w' => e = .returned (.int .i64 (maskOf 7 (JM.conf pre com) : Nat)) ∧ Below w.heap.size w w' := by
  have hbel : Below w.heap.size w (w.alloc (.cells #[.slice A0 pre.length c0, .slice A1 com.length c1] 28)) := (Below.refl _ _).alloc (Nat.le_refl _) _
  have HV := Lib.hid (fun wx (hx : Tab wx A0 A1 (itab pre) (itab com)) => rvalid_calls (itab pre) (itab com) A0 A1 c0 c1 wx hx)
  have hpos := hv.pos
  have hR3 := hv.le
  have hlen := hv.len
  have hn1 := hv.n1
  have hn7 := hv.n7
  have hbox := Blk.new w #[.slice A0 pre.length c0, .slice A1 com.length c1] 28
  have hrowP : ∀ r, r < pre.length → (pre.getD r []).length = n ∧ ∀ x ∈ pre.getD r [], x ≤ 3 := fun r hr => hv.p _ (by
    have : pre.getD r [] = pre[r] := by simp [List.getD, hr]
    rw [this]; exact List.getElem_mem _)
  have hrowC : ∀ r, r < pre.length → (com.getD r []).length = n ∧ ∀ x ∈ com.getD r [], x ≤ 7 := fun r hr => hv.c _ (by
    have hr' : r < com.length := by omega
    have : com.getD r [] = com[r] := by simp [List.getD, hr']
    rw [this]; exact List.getElem_mem _)
  have hend := fun m => cB_end pre com m hlen
  have hz : maskOf 7 (cB pre com 0) = 0 := (maskOf_congr 7 _ (fun _ => false) (fun j _ => by simp [cB, JM.conf])).trans (by decide)
  have HZ := Lib.hid hz
  clear hz
  obtain ⟨R, hR⟩ : ∃ R, pre.length = R := ⟨_, rfl⟩
  rw [← hlen, hR] at hbel hbox ⊢
  rw [hR] at hpos hR3 hlen hrowP hrowC hend
  have HL := Lib.hid hR
  have HLC := Lib.hid hlen
  have HRP := Lib.hid hrowP
  have HRC := Lib.hid hrowC
  have HEND := Lib.hid hend
  rw [itab_length, itab_length, hR, ← hlen, hvB] at HV
  obtain ⟨W1, hW1⟩ : ∃ W1, w.alloc (.cells #[.slice A0 R c0, .slice A1 R c1] 28) = W1 := ⟨_, rfl⟩
  rw [hW1] at hbel hbox
  have HT1 := Lib.hid (ht.below hbel)
  have HBX := Lib.hid hbox
  have HBL := Lib.hid hbel
  have hbsz : W1.heap.size = w.heap.size + 1 := by rw [← hW1]; simp
  clear ht hvB hv hR hlen hrowP hrowC hend hbox hbel
  have ba0 := HBX.out.cell 0 rfl
  have ba1 := HBX.out.cell 1 rfl
  go_enter Try.func16, Try.ntmps16
  go_wp2_with fail
  clear hW1 ba0 ba1
  refine (HV.out _ HT1.out).mono ?_
  rintro e w2 ⟨rfl, hb2⟩
  have bx0 := cell_of_below hb2 (HBX.out.cell 0 rfl)
  have bx1 := cell_of_below hb2 (HBX.out.cell 1 rfl)
  have HB := Lib.hid hb2
  clear hb2
  go_wp2_with fail
  go_loop [3, 4] (fun v3 i => ∃ r : Nat, r ≤ R ∧ i = .int .i64 r ∧ v3 = .int .i64 (maskOf 7 (cB pre com r) : Nat)) (fun _ i => R - (intOf i).toNat)
  case atStart => exact ⟨0, by omega, rfl, by rw [HZ.out]; rfl⟩
  case round =>
    obtain ⟨r, hr, rfl, rfl⟩ := hrel
    by_cases hlt : r < R
    · have hrI : (r : Int) < (R : Int) := by omega
      have hdr : decide ((r : Int) < (R : Int)) = true := decide_eq_true hrI
      obtain ⟨bp, op, Ap, cp, ep, hcp, hRp⟩ := HT1.out.p r (by rw [itab_length, HL.out]; exact hlt)
      obtain ⟨bc, oc, Ac, cc, ec, hcc, hRc⟩ := HT1.out.c r (by rw [itab_length]; have := HLC.out; omega)
      rw [itab_getD, ints_length, (HRP.out r hlt).1] at hcp
      rw [itab_getD, ints_length, (HRC.out r hlt).1] at hcc
      rw [itab_getD] at hRp hRc
      have hcp2 := cell_of_below HB.out hcp
      have hcc2 := cell_of_below HB.out hcc
      have hRp2 := hRp.below HB.out
      have hRc2 := hRc.below HB.out
      have HP3 := Lib.hid (HRP.out r hlt)
      have HC7 := Lib.hid (HRC.out r hlt)
      have HME := Lib.hid (mB_end pre com r n (by rw [HL.out]; exact HLC.out) (by rw [HL.out]; exact hlt) (fun j hj => by
        unfold entB
        have e1 : (pre.getD r []).getD j 0 = 0 := getD_out (by rw [HP3.out.1]; exact hj)
        have e2 : (com.getD r []).getD j 0 = 0 := getD_out (by rw [HC7.out.1]; exact hj)
        rw [e1, e2]; rfl))
      have HMZ := Lib.hid (mB_zero pre com r)
      clear hcp hcc hRp hRc
      subst ep ec
      go_wp2_with fail
      go_loop [3, 5] (fun v3 i => ∃ j : Nat, j ≤ n ∧ i = .int .i64 j ∧ v3 = .int .i64 (maskOf 7 (mB pre com r j) : Nat)) (fun _ i => n - (intOf i).toNat)
      case atStart => exact ⟨0, by omega, rfl, by rw [HMZ.out]⟩
      case round =>
        obtain ⟨j, hj, rfl, rfl⟩ := hrel
        by_cases hlt2 : j < n
        · have hjd : decide ((j : Int) < (n : Int)) = true := decide_eq_true (by omega)
          obtain ⟨b5, o5, e5, hc5⟩ := hRp2.get (i := j) (by rw [HP3.out.1]; exact hlt2)
          obtain ⟨b6, o6, e6, hc6⟩ := hRc2.get (i := j) (by rw [HC7.out.1]; exact hlt2)
          have x3 := getD_le HP3.out.2 j
          have y7 := getD_le HC7.out.2 j
          have hyes := mB_yes pre com r j (by omega)
          have hno := mB_no pre com r j
          have hent : entB pre com r j = (JM.two ((pre.getD r []).getD j 0) || JM.two ((com.getD r []).getD j 0)) := rfl
          rw [hent] at hyes hno
          clear hent
          obtain ⟨x, hx⟩ : ∃ x, (pre.getD r []).getD j 0 = x := ⟨_, rfl⟩
          obtain ⟨y, hy⟩ : ∃ y, (com.getD r []).getD j 0 = y := ⟨_, rfl⟩
          rw [hx] at hc5 x3 hyes hno
          rw [hy] at hc6 y7 hyes hno
          clear hx hy
          obtain ⟨m, hm⟩ : ∃ m, maskOf 7 (mB pre com r j) = m := ⟨_, rfl⟩
          obtain ⟨m2, hm2⟩ : ∃ m, maskOf 7 (mB pre com r (j + 1)) = m := ⟨_, rfl⟩
          rw [hm, hm2] at hyes hno
          rw [hm]
          have HM2 := Lib.hid hm2
          clear hm hm2
          have HX := Lib.hid (fun wx => many_calls x (by omega) wx)
          have HY := Lib.hid (fun wx => many_calls y y7 wx)
          have HBT := Lib.hid (fun wx => rbit_calls j (by omega) wx)
          obtain ⟨z, hz⟩ : ∃ z, (2 : Nat) ^ j = z := ⟨_, rfl⟩
          rw [hz] at HBT hyes
          clear hz
          subst e5 e6
          cases h1 : JM.two x with
          | true =>
            rw [h1] at HX hyes hno
            have ho := hyes rfl
            clear hyes hno h1
            go_wp2_with fail
            refine (HX.out _).mono ?_
            rintro e w' ⟨rfl, rfl⟩
            go_wp2_with fail
            refine (HBT.out _).mono ?_
            rintro e w' ⟨rfl, rfl⟩
            go_wp2
            go_round
            case rel => exact ⟨j + 1, by omega, by go_num, by rw [HM2.out]⟩
            case measure => simp [intOf]; omega
          | false =>
            rw [h1] at HX hyes hno
            cases h2 : JM.two y with
            | true =>
              rw [h2] at HY hyes hno
              have ho := hyes rfl
              clear hyes hno h1 h2
              go_wp2_with fail
              refine (HX.out _).mono ?_
              rintro e w' ⟨rfl, rfl⟩
              go_wp2_with fail
              refine (HY.out _).mono ?_
              rintro e w' ⟨rfl, rfl⟩
              go_wp2_with fail
              refine (HBT.out _).mono ?_
              rintro e w' ⟨rfl, rfl⟩
              go_wp2
              go_round
              case rel => exact ⟨j + 1, by omega, by go_num, by rw [HM2.out]⟩
              case measure => simp [intOf]; omega
            | false =>
              rw [h2] at HY hyes hno
              have ho := Lib.hid (hno rfl)
              clear hyes hno h1 h2
              go_wp2_with fail
              refine (HX.out _).mono ?_
              rintro e w' ⟨rfl, rfl⟩
              go_wp2_with fail
              refine (HY.out _).mono ?_
              rintro e w' ⟨rfl, rfl⟩
              go_wp2
              go_round
              case rel => exact ⟨j + 1, by omega, by go_num, by rw [HM2.out, ho.out]⟩
              case measure => simp [intOf]; omega
        · obtain rfl : j = n := by omega
          go_wp2
          go_round
          case rel => exact ⟨r + 1, by omega, by go_num, by rw [HME.out]⟩
          case measure => simp [intOf]; omega
    · obtain rfl : r = R := by omega
      have HE := Lib.hid (HBL.out.trans (HB.out.mono (by omega)))
      have hcg := Lib.hid (maskOf_congr 7 _ _ (fun j _ => HEND.out j))
      go_wp2
      go_ret
      exact ⟨ret_int (by rw [hcg.out]), HE.out⟩

end Go.Proofs.Ytmoemalkojckaaa.J
