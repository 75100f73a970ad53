import Derived.Test.YtmoemalkojckaaaProg
import Derived.Below
import Derived.Deep.Draws
import Derived.Deep.AppendLies
import Derived.OwnWalk
import Derived.Laws.MakeOwn
import Derived.Laws.OwnMore
import Derived.Deep.OwnRows
import Derived.Tactics
import Derived.Laws.Slices
import Derived.WalkKit
import Derived.KernelRfl
import Derived.RowKit3
import Derived.Deep.LoopGhost
import Derived.Deep.QuietTactic
import Derived.BigQuiet
import Derived.Deep.DeepCutAuto
import Derived.Deep.CutBlock
import Derived.Deep.RegionHeld3
import Derived.Laws.Rows
import Derived.Laws.BitsLemmas
import Derived.RowKit
import Derived.Lib.Hide
import Derived.WalkLawsBesides
import Derived.WalkSpells
import Derived.Deep.DeepFit
import Derived.BigRegion
import Derived.Test.YtmoemalkojckaaaR3
namespace Go.Proofs.Ytmoemalkojckaaa.J
open Go.RowKit
set_option linter.unusedVariables false
set_option linter.unusedSimpArgs false

def DDr (dd : Bool × Bool) (q : Nat) (pre com : List (List Nat)) (r : Nat) (pp cc : List Nat) (e1 e2 : Bool) : Prop :=
  dd = (e1 || (JM.dec q (JM.keep (pre.getD r []) (canR r pp cc q)) (pre.drop (r + 1)) (com.drop r)).1, e2 || (JM.dec q (JM.keep (pre.getD r []) (canR r pp cc q)) (pre.drop (r + 1)) (com.drop r)).2)
theorem nxt_vK (pp cc : List Nat) (q : Nat) : JM.nxt pp cc q = vK false (JM.nextC pp cc q 1) false (JM.nextC pp cc q 2) 2 := by
  rw [nxt_code, vK_end]; simp

set_option maxHeartbeats 6400000 in
set_option maxRecDepth 100000 in
theorem rdecidable_calls (pre com : List (List Nat)) (n : Nat) (hv : JM.Valid n pre com) (A0 A1 : Option Addr) (c0 c1 : Nat) (w : World) (ht : Tab w A0 A1 (itab pre) (itab com)) (hvB : validB (itab pre) (itab com) = true) :
    Calls Try.prog 11 #[.agg #[.slice A0 pre.length c0, .slice A1 com.length c1]] w fun e w' => e = .returned (.tuple #[.bool (JM.decT n pre com).1, .bool (JM.decT n pre com).2]) ∧ Below w.heap.size w w' := by
  have hbel : Below w.heap.size w (w.alloc (.cells #[.slice A0 pre.length c0, .slice A1 com.length c1] 28)) := (Below.refl _ _).alloc (Nat.le_refl _) _
  have HV := Lib.hid (fun wx (hx : Tab wx A0 A1 (itab pre) (itab com)) => rvalid_calls (itab pre) (itab com) A0 A1 c0 c1 wx hx)
  have hpos := hv.pos
  have hR3 := hv.le
  have hlen := hv.len
  have hn1 := hv.n1
  have hn7 := hv.n7
  have hbox := Blk.new w #[.slice A0 pre.length c0, .slice A1 com.length c1] 28
  have hrowP : ∀ r, r < pre.length → (pre.getD r []).length = n ∧ ∀ x ∈ pre.getD r [], x ≤ 3 := fun r hr => hv.p _ (by
    have : pre.getD r [] = pre[r] := by simp [List.getD, hr]
    rw [this]; exact List.getElem_mem _)
  have hrowC : ∀ r, r < pre.length → (com.getD r []).length = n ∧ ∀ x ∈ com.getD r [], x ≤ 7 := fun r hr => hv.c _ (by
    have hr' : r < com.length := by omega
    have : com.getD r [] = com[r] := by simp [List.getD, hr']
    rw [this]; exact List.getElem_mem _)
  have HD := Lib.hid (show JM.decT n pre com = (false || (JM.dec (JM.quorum n) (JM.keep (pre.getD 0 []) (canR 0 [] [] (JM.quorum n))) (pre.drop (0 + 1)) (com.drop 0)).1, false || (JM.dec (JM.quorum n) (JM.keep (pre.getD 0 []) (canR 0 [] [] (JM.quorum n))) (pre.drop (0 + 1)) (com.drop 0)).2) by
    have e3 : canR 0 [] [] (JM.quorum n) = 3 := rfl
    rw [e3, keep3 _ (hrowP 0 (by omega)).2]
    cases hp : pre with
    | nil => rw [hp] at hpos; simp at hpos
    | cons p ps => simp [JM.decT])
  have HSTEP := Lib.hid (fun r pp cc hr => ref_step (JM.quorum n) pre com r pp cc hr hlen)
  obtain ⟨R, hR⟩ : ∃ R, pre.length = R := ⟨_, rfl⟩
  rw [← hlen, hR] at hbel hbox ⊢
  rw [hR] at hpos hR3 hlen hrowP hrowC HSTEP
  have HL := Lib.hid hR
  have HLC := Lib.hid hlen
  have HRP := Lib.hid hrowP
  have HRC := Lib.hid hrowC
  rw [itab_length, itab_length, hR, ← hlen, hvB] at HV
  obtain ⟨W1, hW1⟩ : ∃ W1, w.alloc (.cells #[.slice A0 R c0, .slice A1 R c1] 28) = W1 := ⟨_, rfl⟩
  rw [hW1] at hbel hbox
  have HT1 := Lib.hid (ht.below hbel)
  have HBX := Lib.hid hbox
  have HBL := Lib.hid hbel
  have hbsz : W1.heap.size = w.heap.size + 1 := by rw [← hW1]; simp
  clear ht hvB hv hR hlen hrowP hrowC hbox hbel
  have ba0 := HBX.out.cell 0 rfl
  have ba1 := HBX.out.cell 1 rfl
  obtain ⟨b0, o0, A', c', e0, hcell, -⟩ := HT1.out.p 0 (by rw [itab_length, HL.out]; omega)
  rw [itab_getD, ints_length, (HRP.out 0 (by omega)).1, Nat.add_zero] at hcell
  have HC0 := Lib.hid hcell
  clear hcell
  have HQ := Lib.hid (fun wx => quorum_calls29 n hn1 (by omega) wx)
  have hq1 := JM.quorum_pos hn1
  have hqn : JM.quorum n ≤ n := by unfold JM.quorum; omega
  generalize JM.decT n pre com = dd at HD ⊢
  generalize JM.quorum n = q at *
  subst e0
  go_enter Try.func11, Try.ntmps11
  go_wp2_with fail
  clear hW1 ba0 ba1
  refine (HV.out _ HT1.out).mono ?_
  rintro e w2 ⟨rfl, hb2⟩
  have bx0 := cell_of_below hb2 (HBX.out.cell 0 rfl)
  have bx1 := cell_of_below hb2 (HBX.out.cell 1 rfl)
  have hc0 := cell_of_below hb2 HC0.out
  have HB := Lib.hid hb2
  clear hb2
  go_wp2_with fail
  refine (HQ.out _).mono ?_
  rintro e w' ⟨rfl, rfl⟩
  go_wp2_with fail
  have hbo : w2.heap.size = w2.heap.size := rfl
  have HBO := Lib.hid (Blk.new w2 #[.bool false, .bool false] 60)
  have HB0 := Lib.hid (HB.out.alloc HB.out.size (.cells #[.bool false, .bool false] 60))
  obtain ⟨bo, hbo⟩ : ∃ b, w2.heap.size = b := ⟨_, rfl⟩
  rw [hbo] at HBO ⊢
  have hbo1 : W1.heap.size ≤ bo := by rw [← hbo]; exact HB.out.size
  clear bx0 bx1 hc0 HB
  go_loopw [7, 8, 9] (fun v7 v8 i wr => ∃ (r : Nat) (pp cc : List Nat) (eE eI : Bool), r ≤ R ∧ i = .int .i64 r ∧ Hid (PC wr v7 v8 pp cc n r) ∧ Hid (Blk wr bo [.bool eE, .bool eI] 60) ∧ Hid (Below W1.heap.size W1 wr) ∧
      Hid (DDr dd q pre com r pp cc eE eI)) (fun _ _ i _ => R - (intOf i).toNat)
  case atStart => exact ⟨0, [], [], false, false, by omega, rfl, .inl ⟨rfl, rfl, rfl, rfl, rfl⟩, HBO.out, HB0.out, HD.out⟩
  case round =>
    clear HD HB0 HBO
    obtain ⟨r, pp, cc, eE, eI, hr, rfl, HPC, HBO, HB, HD⟩ := hrel
    have bx0 := cell_of_below HB.out (HBX.out.cell 0 rfl)
    have bx1 := cell_of_below HB.out (HBX.out.cell 1 rfl)
    by_cases hlt : r < R
    · have hdr : decide ((r : Int) < (R : Int)) = true := decide_eq_true (by omega)
      go_upto_if 35 with (fail)
      have hb6 := hqn
      go_cut [10] (fun v10 wx => v10 = .int .i64 (canR r pp cc q : Nat) ∧ wx = wr)
      case first =>
        rcases HPC.out with ⟨rfl, rfl, rfl, rfl, rfl⟩ | ⟨hr0, hpl, hcl, hp3, hc7, b7, b8, rfl, rfl, hB7, hB8⟩
        · have hd0 : decide ((0 : Int) < (((0 : Nat)) : Int)) = false := by decide
          go_wp2
          go_meet
          exact ⟨rfl, rfl⟩
        · have hd0 : 0 < r := by omega
          have HR0 := Lib.hid hr0
          have Cc := Lib.hid (fun (x : Nat) (hx : x ≤ 7) => rcount_at cc n x n (some ⟨b8, 0, none⟩) hcl hc7 hx (by omega) wr (RowAt.blk hB8))
          have Cp := Lib.hid (fun (x : Nat) (hx : x ≤ 7) => rcount_at pp n x n (some ⟨b7, 0, none⟩) hpl (fun x h => Nat.le_trans (hp3 x h) (by omega)) hx (by omega) wr (RowAt.blk hB7))
          have bc : ∀ x, JM.cnt cc x ≤ 1000 := fun x => by have : JM.cnt cc x ≤ cc.length := List.countP_le_length; omega
          have bp : ∀ x, JM.cnt pp x ≤ 1000 := fun x => by have : JM.cnt pp x ≤ pp.length := List.countP_le_length; omega
          have BC := Lib.hid bc
          have BP := Lib.hid bp
          have HPL := Lib.hid hpl
          have HCL := Lib.hid hcl
          have hcan : canR r pp cc q = vK false (JM.nextC pp cc q 1) false (JM.nextC pp cc q 2) 2 := by
            unfold canR
            rw [if_neg hr0, nxt_vK]
          have HCAN := Lib.hid hcan
          have HDN := Lib.hid (fun x => show JM.nextC pp cc q x = ((decide (q ≤ JM.cnt cc (x ||| 4)) && decide (0 < JM.cnt cc x)) || (decide (q ≤ JM.cnt cc 4) && decide (0 < JM.cnt pp x))) from rfl)
          clear hr0 hpl hcl hp3 hc7 hB7 hB8 bc bp hcan
          go_wp2_with fail
          go_loop [10, 11] (fun v10 i => ∃ k : Nat, k ≤ 2 ∧ i = .int .i64 ((k + 1 : Nat) : Int) ∧ v10 = .int .i64 (vK false (JM.nextC pp cc q 1) false (JM.nextC pp cc q 2) k : Nat)) (fun _ i => 3 - (intOf i).toNat)
          case atStart => exact ⟨0, by omega, rfl, rfl⟩
          case round =>
            obtain ⟨k, hk, rfl, rfl⟩ := hrel
            by_cases hk2 : k < 2
            · have hx2 : decide (((k + 1 : Nat) : Int) ≤ 2) = true := decide_eq_true (by omega)
              have C1 := Lib.hid (Cc.out ((k + 1) ||| 4) (by have : k = 0 ∨ k = 1 := by omega
                                                             rcases this with rfl | rfl <;> decide))
              have C2 := Lib.hid (Cc.out (k + 1) (by omega))
              have C3 := Lib.hid (Cc.out 4 (by omega))
              have C4 := Lib.hid (Cp.out (k + 1) (by omega))
              have yN := vK_yes false (JM.nextC pp cc q 1) false (JM.nextC pp cc q 2) k hk2
              have nN := vK_no false (JM.nextC pp cc q 1) false (JM.nextC pp cc q 2) k hk2
              have i2 : (if k = 0 then JM.nextC pp cc q 1 else JM.nextC pp cc q 2) = JM.nextC pp cc q (k + 1) := by
                have : k = 0 ∨ k = 1 := by omega
                rcases this with rfl | rfl <;> rfl
              have ho4 : Go.bits .or .i64 ((k + 1 : Nat) : Int) 4 = (((k + 1) ||| 4 : Nat) : Int) := or4 (by omega)
              rw [i2, HDN.out] at yN nN
              have bA := BC.out ((k + 1) ||| 4)
              have bB := BC.out (k + 1)
              have bC := BC.out 4
              have bE := BP.out (k + 1)
              clear i2
              obtain ⟨e1, he1⟩ : ∃ v, vK false (JM.nextC pp cc q 1) false (JM.nextC pp cc q 2) k = v := ⟨_, rfl⟩
              obtain ⟨e2, he2⟩ : ∃ v, vK false (JM.nextC pp cc q 1) false (JM.nextC pp cc q 2) (k + 1) = v := ⟨_, rfl⟩
              rw [he1, he2] at yN nN
              rw [he1]
              have HE2 := Lib.hid he2
              clear he1 he2
              obtain ⟨x, hx⟩ : ∃ x, k + 1 = x := ⟨_, rfl⟩
              have hxk : (x : Int) = (k : Int) + 1 := by omega
              have HXK := Lib.hid hx
              rw [hx] at C1 C2 C4 yN nN bA bB bE ho4 hx2 ⊢
              clear hx
              obtain ⟨x4, hx4⟩ : ∃ x4, x ||| 4 = x4 := ⟨_, rfl⟩
              rw [hx4] at C1 yN nN bA ho4
              clear hx4
              generalize JM.cnt cc x = mx at *
              generalize JM.cnt cc x4 = mx4 at *
              generalize JM.cnt pp x = nx at *
              obtain ⟨m4, hm4⟩ : ∃ m, JM.cnt cc 4 = m := ⟨_, rfl⟩
              rw [hm4] at C3 yN nN bC
              clear hm4
              have YN := Lib.hid yN
              have NN := Lib.hid nN
              have hx3 : x ≤ 2 := by omega
              have HXI := Lib.hid hxk
              clear yN nN hxk
              go_upto_region 16 with (fail)
              obtain ⟨wy, h⟩ : ∃ wz : World, wz = wr := ⟨_, rfl⟩
              subst h
              go_cut [63] (fun v63 wx => v63 = .bool ((decide (q ≤ mx4) && decide (0 < mx)) || (decide (q ≤ m4) && decide (0 < nx))) ∧ wx = wy)
              case first =>
                by_cases hA : q ≤ mx4
                · by_cases hB : 0 < mx
                  · have hv : ((decide (q ≤ mx4) && decide (0 < mx)) || (decide (q ≤ m4) && decide (0 < nx))) = true := by simp [hA, hB]
                    have HVv := Lib.hid hv
                    clear hv
                    go_wp2_with fail
                    refine (C1.out).mono ?_
                    rintro e w' ⟨rfl, rfl⟩
                    go_wp2_with fail
                    refine (C2.out).mono ?_
                    rintro e w' ⟨rfl, rfl⟩
                    go_wp2
                    go_meet
                    exact ⟨by rw [HVv.out], rfl⟩
                  · by_cases hC : q ≤ m4
                    · have hv : ((decide (q ≤ mx4) && decide (0 < mx)) || (decide (q ≤ m4) && decide (0 < nx))) = decide (0 < nx) := by simp [hB, hC]
                      have HVv := Lib.hid hv
                      clear hv
                      go_wp2_with fail
                      refine (C1.out).mono ?_
                      rintro e w' ⟨rfl, rfl⟩
                      go_wp2_with fail
                      refine (C2.out).mono ?_
                      rintro e w' ⟨rfl, rfl⟩
                      go_wp2_with fail
                      refine (C3.out).mono ?_
                      rintro e w' ⟨rfl, rfl⟩
                      go_wp2_with fail
                      refine (C4.out).mono ?_
                      rintro e w' ⟨rfl, rfl⟩
                      go_wp2
                      go_meet
                      exact ⟨by rw [HVv.out], rfl⟩
                    · have hv : ((decide (q ≤ mx4) && decide (0 < mx)) || (decide (q ≤ m4) && decide (0 < nx))) = false := by simp [hB, hC]
                      have HVv := Lib.hid hv
                      clear hv
                      go_wp2_with fail
                      refine (C1.out).mono ?_
                      rintro e w' ⟨rfl, rfl⟩
                      go_wp2_with fail
                      refine (C2.out).mono ?_
                      rintro e w' ⟨rfl, rfl⟩
                      go_wp2_with fail
                      refine (C3.out).mono ?_
                      rintro e w' ⟨rfl, rfl⟩
                      go_wp2
                      go_meet
                      exact ⟨by rw [HVv.out], rfl⟩
                · by_cases hC : q ≤ m4
                  · have hv : ((decide (q ≤ mx4) && decide (0 < mx)) || (decide (q ≤ m4) && decide (0 < nx))) = decide (0 < nx) := by simp [hA, hC]
                    have HVv := Lib.hid hv
                    clear hv
                    go_wp2_with fail
                    refine (C1.out).mono ?_
                    rintro e w' ⟨rfl, rfl⟩
                    go_wp2_with fail
                    refine (C3.out).mono ?_
                    rintro e w' ⟨rfl, rfl⟩
                    go_wp2_with fail
                    refine (C4.out).mono ?_
                    rintro e w' ⟨rfl, rfl⟩
                    go_wp2
                    go_meet
                    exact ⟨by rw [HVv.out], rfl⟩
                  · have hv : ((decide (q ≤ mx4) && decide (0 < mx)) || (decide (q ≤ m4) && decide (0 < nx))) = false := by simp [hA, hC]
                    have HVv := Lib.hid hv
                    clear hv
                    go_wp2_with fail
                    refine (C1.out).mono ?_
                    rintro e w' ⟨rfl, rfl⟩
                    go_wp2_with fail
                    refine (C3.out).mono ?_
                    rintro e w' ⟨rfl, rfl⟩
                    go_wp2
                    go_meet
                    exact ⟨by rw [HVv.out], rfl⟩
              case rest =>
                obtain ⟨rfl, rfl⟩ := hcut
                generalize ((decide (q ≤ mx4) && decide (0 < mx)) || (decide (q ≤ m4) && decide (0 < nx))) = b at *
                have hki : ((k : Int) + 1) + 1 = ((k + 1 + 1 : Nat) : Int) := by omega
                cases b with
                | true =>
                  have ho := YN.out rfl
                  go_wp2
                  go_round
                  case rel => exact ⟨k + 1, by omega, by rw [← HXK.out]; go_num, by rw [HE2.out]⟩
                  case measure => simp [intOf]; omega
                | false =>
                  have ho := Lib.hid (NN.out rfl)
                  go_wp2
                  go_round
                  case rel => exact ⟨k + 1, by omega, by rw [← HXK.out]; go_num, by rw [HE2.out, ho.out]⟩
                  case measure => simp [intOf]; omega
            · obtain rfl : k = 2 := by omega
              have hx2 : decide (((2 + 1 : Nat) : Int) ≤ 2) = false := by decide
              go_wp2
              go_meet
              exact ⟨by rw [HCAN.out], rfl⟩
      case rest =>
        obtain ⟨rfl, rfl⟩ := hcut
        obtain ⟨wa, h⟩ : ∃ wz : World, wz = wc := ⟨_, rfl⟩
        subst h
        have hcan3 := canR_le r pp cc q
        obtain ⟨can, hcane⟩ : ∃ c, canR r pp cc q = c := ⟨_, rfl⟩
        rw [hcane] at hcan3 ⊢
        have HCANE := Lib.hid hcane
        clear hcane hb6
        obtain ⟨b2, o2, A2, c2, e2, hc2, hR2⟩ := HT1.out.p r (by rw [itab_length, HL.out]; exact hlt)
        obtain ⟨b3, o3, A3, c3, e3, hc3, hR3'⟩ := HT1.out.c r (by rw [itab_length]; have := HLC.out; omega)
        injection e2 with e2
        injection e2 with e2 e2'
        subst e2 e2'
        subst e3
        rw [itab_getD, ints_length, (HRP.out r hlt).1] at hc2
        rw [itab_getD, ints_length, (HRC.out r hlt).1] at hc3
        rw [itab_getD] at hR2 hR3'
        have HP3 := Lib.hid (HRP.out r hlt)
        have HC7 := Lib.hid (HRC.out r hlt)
        obtain ⟨l, hl⟩ : ∃ l, pre.getD r [] = l := ⟨_, rfl⟩
        obtain ⟨l2, hl2⟩ : ∃ l, com.getD r [] = l := ⟨_, rfl⟩
        rw [hl] at hR2 HP3
        rw [hl2] at hR3' HC7
        have HLE := Lib.hid hl
        have HL2E := Lib.hid hl2
        have HR2 := Lib.hid (hR2.below HB.out)
        have HR3 := Lib.hid (hR3'.below HB.out)
        have HC2 := Lib.hid (cell_of_below HB.out hc2)
        have HC3 := Lib.hid (cell_of_below HB.out hc3)
        clear hl hl2 hR2 hR3' hc2 hc3
        have hmk := fun wx => Go.run_make_row' (P := Try.prog) 45 3 (.int .i64 0) 8 Try.underlying45 info3 rfl .i64 .i64 n (by omega) (by omega) wx
        rw [mk_nums] at hmk
        have hst : Blk (wa.alloc (.cells (nums (List.replicate n 0)).toArray 3)) wa.heap.size (nums (keepK l can 0)) 3 := by
          have := Blk.new wa (nums (List.replicate n 0)).toArray 3
          rw [List.toList_toArray] at this
          rw [← HP3.out.1] at this ⊢
          simpa [keepK] using this
        have HST := Lib.hid hst
        have hset := keepK_set l can
        have hend := keepK_end l can
        rw [HP3.out.1] at hset hend
        have HSET := Lib.hid hset
        have HEND := Lib.hid hend
        clear hst hset hend
        go_wp2_with fail
        go_loopw [13] (fun i wx => ∃ m : Nat, m ≤ n ∧ i = .int .i64 m ∧ Hid (Blk wx wa.heap.size (nums (keepK l can m)) 3) ∧ Hid (Below wa.heap.size wa wx)) (fun i _ => n - (intOf i).toNat)
        case atStart => exact ⟨0, by omega, rfl, HST.out, (Below.refl _ _).alloc (Nat.le_refl _) _⟩
        case round =>
          obtain ⟨wx, h⟩ : ∃ wz : World, wz = wr := ⟨_, rfl⟩
          subst h
          obtain ⟨m, hm, rfl, hBm, hbm⟩ := hrel
          have cx0 := cell_of_below hbm.out bx0
          have cx1 := cell_of_below hbm.out bx1
          by_cases hmt : m < n
          · have hmd : decide ((m : Int) < (n : Int)) = true := decide_eq_true (by omega)
            have d2 := cell_of_below hbm.out HC2.out
            obtain ⟨b4, o4, e4, d4⟩ := (HR2.out.below hbm.out).get (i := m) (by rw [HP3.out.1]; exact hmt)
            subst e4
            have hx3 := getD_le HP3.out.2 m
            have hkl : m < (keepK l can m).length := by
              unfold keepK
              rw [List.length_append, List.length_take, JM.keep_length, List.length_replicate, HP3.out.1]; omega
            have hold := hBm.out.cell m (nums_get _ m hkl)
            have hfz := hBm.out.free m
            have hset := HSET.out m hmt
            obtain ⟨x, hx⟩ : ∃ x, l.getD m 0 = x := ⟨_, rfl⟩
            rw [hx] at d4 hx3 hset
            have ha : Go.bits .and .i64 (x : Int) (can : Int) = ((x &&& can : Nat) : Int) := and7 (by omega) (by omega)
            have hN := hBm.out.set m (.int .i64 ((x &&& can : Nat) : Int))
            have e2 : (nums (keepK l can m)).set m (.int .i64 ((x &&& can : Nat) : Int)) = nums (keepK l can (m + 1)) := by
              rw [← hset]; unfold nums; rw [List.map_set]
            rw [e2] at hN
            have hbN := hbm.out.setCell (p := ⟨wa.heap.size, m, none⟩) (Nat.le_refl _) (.int .i64 ((x &&& can : Nat) : Int))
            have HN := Lib.hid (And.intro hN hbN)
            generalize (keepK l can m)[m] = old at hold
            generalize x &&& can = z at *
            clear hN hbN e2 hset hx hkl hBm hbm
            go_wp2
            go_roundw
            case rel => exact ⟨m + 1, by omega, by go_num, HN.out.1, HN.out.2⟩
            case measure => simp [intOf]; omega
          · obtain rfl : n = m := by omega
            have hmd : decide ((n : Int) < (n : Int)) = false := by simp
            have hBp := hBm.out
            rw [HEND.out] at hBp
            obtain ⟨p, hpd⟩ : ∃ p, JM.keep l can = p := ⟨_, rfl⟩
            have pL : p.length = n := by rw [← hpd, JM.keep_length]; exact HP3.out.1
            have p3 : ∀ x ∈ p, x ≤ 3 := by rw [← hpd]; exact JM.keep_le HP3.out.2
            rw [hpd] at hBp
            have HPD := Lib.hid hpd
            have HBp := Lib.hid hBp
            have HBW := Lib.hid (HB.out.trans (hbm.out.mono HB.out.size))
            have HBOx := Lib.hid (HBO.out.below hbm.out HBO.out.lt)
            have HC3x := Lib.hid (cell_of_below hbm.out HC3.out)
            have HR3x := Lib.hid (HR3.out.below hbm.out)
            have Cn := Lib.hid (fun (x : Nat) (hx : x ≤ 7) (wy : World) (hw : RowAt wy (some ⟨wa.heap.size, 0, none⟩) (ints p)) => rcount_at p n x n (some ⟨wa.heap.size, 0, none⟩) pL (fun x h => Nat.le_trans (p3 x h) (by omega)) hx (by omega) wy hw)
            have hbb : ∀ x, JM.cnt p x ≤ 1000 := fun x => by have : JM.cnt p x ≤ p.length := List.countP_le_length; omega
            have HBB := Lib.hid hbb
            have Cm := Lib.hid (fun (wy : World) (hw : RowAt wy (some ⟨wa.heap.size, 0, none⟩) (ints p)) => mix_calls p q n (some ⟨wa.heap.size, 0, none⟩) wy (fun x h => Nat.le_trans (p3 x h) (by omega)) hq1 (by omega) (by omega) hw)
            rw [pL] at Cm
            have PL := Lib.hid pL
            have P3 := Lib.hid p3
            obtain ⟨b12, hb12⟩ : ∃ b, wa.heap.size = b := ⟨_, rfl⟩
            rw [hb12] at HBp Cn Cm ⊢
            have hbo12 : bo < b12 := by rw [← hb12]; exact HBO.out.lt
            have hwx := HBp.out.lt
            have HRp := Lib.hid (RowAt.blk HBp.out)
            clear hpd hBp hBm hbm pL p3 hbb HST HEND HSET hb12 HR2 HR3 HC2 HC3 hmk HPC HBO HB bx0 bx1 hcan3
            go_wp2_with fail
            go_loop [10, 14] (fun v10 i => ∃ k : Nat, k ≤ 2 ∧ i = .int .i64 ((k + 1 : Nat) : Int) ∧ v10 = .int .i64 (vK false (decide (q ≤ JM.cnt p 1)) false (decide (q ≤ JM.cnt p 2)) k : Nat)) (fun _ i => 3 - (intOf i).toNat)
            case atStart => exact ⟨0, by omega, rfl, rfl⟩
            case round =>
              obtain ⟨k, hk, rfl, rfl⟩ := hrel
              by_cases hk2 : k < 2
              · have hx2 : decide (((k + 1 : Nat) : Int) ≤ 2) = true := decide_eq_true (by omega)
                have CK := Lib.hid (Cn.out (k + 1) (by omega) _ HRp.out)
                have hyes := vK_yes false (decide (q ≤ JM.cnt p 1)) false (decide (q ≤ JM.cnt p 2)) k hk2
                have hno := vK_no false (decide (q ≤ JM.cnt p 1)) false (decide (q ≤ JM.cnt p 2)) k hk2
                have hif : (if k = 0 then decide (q ≤ JM.cnt p 1) else decide (q ≤ JM.cnt p 2)) = decide (q ≤ JM.cnt p (k + 1)) := by
                  have : k = 0 ∨ k = 1 := by omega
                  rcases this with rfl | rfl <;> rfl
                rw [hif] at hyes hno
                have hbk := HBB.out (k + 1)
                clear hif
                obtain ⟨e1, he1⟩ : ∃ v, vK false (decide (q ≤ JM.cnt p 1)) false (decide (q ≤ JM.cnt p 2)) k = v := ⟨_, rfl⟩
                obtain ⟨e2, he2⟩ : ∃ v, vK false (decide (q ≤ JM.cnt p 1)) false (decide (q ≤ JM.cnt p 2)) (k + 1) = v := ⟨_, rfl⟩
                rw [he1, he2] at hyes hno
                rw [he1]
                have HE2 := Lib.hid he2
                clear he1 he2
                obtain ⟨x, hx⟩ : ∃ x, k + 1 = x := ⟨_, rfl⟩
                have hx3 : x ≤ 2 := by omega
                have HXK := Lib.hid hx
                rw [hx] at CK hyes hno hbk hx2 ⊢
                clear hx
                obtain ⟨mm, hm⟩ : ∃ m, JM.cnt p x = m := ⟨_, rfl⟩
                rw [hm] at CK hyes hno hbk
                clear hm
                by_cases hqm : q ≤ mm
                · have ho := hyes (by simpa using hqm)
                  clear hyes hno
                  go_wp2_with fail
                  refine (CK.out).mono ?_
                  rintro e w' ⟨rfl, rfl⟩
                  go_wp2
                  go_round
                  case rel => exact ⟨k + 1, by omega, by rw [← HXK.out]; go_num, by rw [HE2.out]⟩
                  case measure => simp [intOf]; omega
                · have ho := Lib.hid (hno (by simpa using hqm))
                  clear hyes hno
                  go_wp2_with fail
                  refine (CK.out).mono ?_
                  rintro e w' ⟨rfl, rfl⟩
                  go_wp2
                  go_round
                  case rel => exact ⟨k + 1, by omega, by rw [← HXK.out]; go_num, by rw [HE2.out, ho.out]⟩
                  case measure => simp [intOf]; omega
              · obtain rfl : k = 2 := by omega
                have hx2 : decide (((2 + 1 : Nat) : Int) ≤ 2) = false := by decide
                have hpv : vK false (decide (q ≤ JM.cnt p 1)) false (decide (q ≤ JM.cnt p 2)) 2 = pK (JM.cnt p 1) (JM.cnt p 2) q 2 := by
                  rw [vK_end, pK_two]
                  by_cases a : q ≤ JM.cnt p 1 <;> by_cases b : q ≤ JM.cnt p 2 <;> simp [a, b, code2]
                rw [hpv]
                have hps := poss_pK p q
                have hv3 := pK_le (JM.cnt p 1) (JM.cnt p 2) q 2
                obtain ⟨v, hv⟩ : ∃ v, pK (JM.cnt p 1) (JM.cnt p 2) q 2 = v := ⟨_, rfl⟩
                rw [hv] at hps hv3 ⊢
                have HPS := Lib.hid hps
                clear hv hps hpv
                obtain ⟨bq, hbq0⟩ : ∃ bq, JM.bothQ p q = bq := ⟨_, rfl⟩
                rw [hbq0] at Cm
                have HBQ := Lib.hid hbq0
                clear hbq0
                go_wp2_with fail
                refine (Cm.out _ HRp.out).mono ?_
                rintro e w' ⟨rfl, rfl⟩
                go_upto_if 101 with (fail)
                go_cut [10] (fun v10 wy => v10 = .int .i64 (JM.poss p q : Nat) ∧ wy = wx)
                case first =>
                  cases bq with
                  | true =>
                    have ho := or4 hv3
                    have hp4 := HPS.out
                    rw [if_pos HBQ.out] at hp4
                    rw [← hp4] at ho
                    clear hp4
                    go_wp2
                    go_meet
                    exact ⟨rfl, rfl⟩
                  | false =>
                    have hp4 := HPS.out
                    rw [if_neg (by rw [HBQ.out]; simp), Nat.or_zero] at hp4
                    have hp5 := Lib.hid hp4
                    clear hp4
                    go_wp2
                    go_meet
                    exact ⟨by rw [hp5.out], rfl⟩
                case rest =>
                  obtain ⟨rfl, rfl⟩ := hcut
                  obtain ⟨wb, h⟩ : ∃ wz : World, wz = wc := ⟨_, rfl⟩
                  subst h
                  have ps7 := JM.poss_le p q
                  obtain ⟨ps, hpse⟩ : ∃ ps, JM.poss p q = ps := ⟨_, rfl⟩
                  rw [hpse] at ps7 ⊢
                  have HPSE := Lib.hid hpse
                  clear hpse hv3 HBQ HPS Cm
                  obtain ⟨cm, hcm⟩ : ∃ cm, JM.keep l2 ps = cm := ⟨_, rfl⟩
                  have cmL : cm.length = n := by rw [← hcm, JM.keep_length]; exact HC7.out.1
                  have cm7 : ∀ x ∈ cm, x ≤ 7 := by rw [← hcm]; exact JM.keep_le HC7.out.2
                  have hmk := fun wx => Go.run_make_row' (P := Try.prog) 45 3 (.int .i64 0) 8 Try.underlying45 info3 rfl .i64 .i64 n (by omega) (by omega) wx
                  rw [mk_nums] at hmk
                  have hst : Blk (wb.drew.alloc (.cells (nums (List.replicate n 0)).toArray 3)) wb.heap.size (nums (keepK l2 ps 0)) 3 := by
                    have := Blk.new wb.drew (nums (List.replicate n 0)).toArray 3
                    rw [List.toList_toArray] at this
                    rw [← HC7.out.1] at this ⊢
                    simpa [keepK] using this
                  have HST := Lib.hid hst
                  have hset := keepK_set l2 ps
                  have hend := keepK_end l2 ps
                  rw [HC7.out.1] at hset hend
                  rw [hcm] at hend
                  have HSET := Lib.hid hset
                  have HEND := Lib.hid hend
                  have HCM := Lib.hid hcm
                  have HCML := Lib.hid cmL
                  have HCM7 := Lib.hid cm7
                  have HBd := Lib.hid (show Below wb.heap.size wb wb.drew from (Below.refl _ _).drew)
                  clear hst hset hend hcm cmL cm7
                  go_wp2_with fail
                  go_region
                  go_wp2_with fail
                  go_loopw [15] (fun i wy => ∃ m : Nat, m ≤ n ∧ i = .int .i64 m ∧ Hid (Blk wy wb.heap.size (nums (keepK l2 ps m)) 3) ∧ Hid (Below wb.heap.size wb wy)) (fun i _ => n - (intOf i).toNat)
                  case atStart => exact ⟨0, by omega, rfl, HST.out, (HBd.out).alloc (Nat.le_refl _) _⟩
                  case round =>
                    obtain ⟨wy, h⟩ : ∃ wz : World, wz = wr := ⟨_, rfl⟩
                    subst h
                    obtain ⟨m, hm, rfl, hBm, hbm⟩ := hrel
                    have cx1 := cell_of_below hbm.out cx1
                    by_cases hmt : m < n
                    · have hmd : decide ((m : Int) < (n : Int)) = true := decide_eq_true (by omega)
                      have d2 := cell_of_below hbm.out HC3x.out
                      obtain ⟨b4, o4, e4, d4⟩ := (HR3x.out.below hbm.out).get (i := m) (by rw [HC7.out.1]; exact hmt)
                      subst e4
                      have hx3 := getD_le HC7.out.2 m
                      have hkl : m < (keepK l2 ps m).length := by
                        unfold keepK
                        rw [List.length_append, List.length_take, JM.keep_length, List.length_replicate, HC7.out.1]; omega
                      have hold := hBm.out.cell m (nums_get _ m hkl)
                      have hfz := hBm.out.free m
                      have hset := HSET.out m hmt
                      obtain ⟨x, hx⟩ : ∃ x, l2.getD m 0 = x := ⟨_, rfl⟩
                      rw [hx] at d4 hx3 hset
                      have ha : Go.bits .and .i64 (x : Int) (ps : Int) = ((x &&& ps : Nat) : Int) := and7 (by omega) (by omega)
                      have hN := hBm.out.set m (.int .i64 ((x &&& ps : Nat) : Int))
                      have e2 : (nums (keepK l2 ps m)).set m (.int .i64 ((x &&& ps : Nat) : Int)) = nums (keepK l2 ps (m + 1)) := by
                        rw [← hset]; unfold nums; rw [List.map_set]
                      rw [e2] at hN
                      have hbN := hbm.out.setCell (p := ⟨wb.heap.size, m, none⟩) (Nat.le_refl _) (.int .i64 ((x &&& ps : Nat) : Int))
                      have HN := Lib.hid (And.intro hN hbN)
                      generalize (keepK l2 ps m)[m] = old at hold
                      generalize x &&& ps = z at *
                      clear hN hbN e2 hset hx hkl hBm hbm
                      go_wp2
                      go_roundw
                      case rel => exact ⟨m + 1, by omega, by go_num, HN.out.1, HN.out.2⟩
                      case measure => simp [intOf]; omega
                    · obtain rfl : n = m := by omega
                      have hmd : decide ((n : Int) < (n : Int)) = false := by simp
                      have hBc := hBm.out
                      rw [HEND.out] at hBc
                      have HBc := Lib.hid hBc
                      have HRc := Lib.hid (RowAt.blk hBc)
                      have HBpy := Lib.hid (HBp.out.below hbm.out HBp.out.lt)
                      have HBWy := Lib.hid (HBW.out.trans (hbm.out.mono HBW.out.size))
                      have HBOy := Lib.hid (HBOx.out.below hbm.out HBOx.out.lt)
                      have hby8 : bo < wb.heap.size := HBOx.out.lt
                      obtain ⟨b8, hb8⟩ : ∃ b, wb.heap.size = b := ⟨_, rfl⟩
                      rw [hb8] at HBc HRc hby8 ⊢
                      have Cc1 := Lib.hid (fun (wz : World) (hw : RowAt wz (some ⟨b8, 0, none⟩) (ints cm)) => rcount_at cm n 1 n (some ⟨b8, 0, none⟩) HCML.out HCM7.out (by omega) (by omega) wz hw)
                      have Cc2 := Lib.hid (fun (wz : World) (hw : RowAt wz (some ⟨b8, 0, none⟩) (ints cm)) => rcount_at cm n 2 n (some ⟨b8, 0, none⟩) HCML.out HCM7.out (by omega) (by omega) wz hw)
                      have hbb1 : JM.cnt cm 1 ≤ 1000 := by have : JM.cnt cm 1 ≤ cm.length := List.countP_le_length; have := HCML.out; omega
                      have hbb2 : JM.cnt cm 2 ≤ 1000 := by have : JM.cnt cm 2 ≤ cm.length := List.countP_le_length; have := HCML.out; omega
                      have bo0 := HBOy.out.cell 0 rfl
                      have bo1 := HBOy.out.cell 1 rfl
                      have bf0 := HBOy.out.free 0
                      have bf1 := HBOy.out.free 1
                      have N1 := Lib.hid (HBOy.out.set 0 (.bool (eE || decide (q ≤ JM.cnt cm 1))))
                      have N2 := Lib.hid (N1.out.set 1 (.bool (eI || decide (q ≤ JM.cnt cm 2))))
                      have NB1 := Lib.hid (HBWy.out.setCell (p := ⟨bo, 0, none⟩) hbo1 (.bool (eE || decide (q ≤ JM.cnt cm 1))))
                      have NB2 := Lib.hid (NB1.out.setCell (p := ⟨bo, 1, none⟩) hbo1 (.bool (eI || decide (q ≤ JM.cnt cm 2))))
                      have hne8 : b8 ≠ bo := by omega
                      have hne12 : b12 ≠ bo := by omega
                      have NC1 := Lib.hid (HBc.out.far hne8 0 (.bool (eE || decide (q ≤ JM.cnt cm 1))))
                      have NC2 := Lib.hid (NC1.out.far hne8 1 (.bool (eI || decide (q ≤ JM.cnt cm 2))))
                      have NP2 := Lib.hid ((HBpy.out.far hne12 0 (.bool (eE || decide (q ≤ JM.cnt cm 1)))).far hne12 1 (.bool (eI || decide (q ≤ JM.cnt cm 2))))
                      have HRc1 := Lib.hid (RowAt.blk NC1.out)
                      have NEW := Lib.hid (HSTEP.out r pp cc hlt eE eI dd HD.out p cm (by rw [HLE.out, HCANE.out]; exact HPD.out.symm) (by rw [HL2E.out, HPSE.out]; exact HCM.out.symm))
                      clear hBm hbm hBc hb8 HST HEND HSET hmk HBp HRp HBOx HBW HR3x HC3x cx0 cx1
                      have k1 := N1.out.cell 1 rfl
                      have kf1 := N1.out.free 1
                      obtain ⟨n1, hn1e⟩ : ∃ x, JM.cnt cm 1 = x := ⟨_, rfl⟩
                      obtain ⟨n2, hn2e⟩ : ∃ x, JM.cnt cm 2 = x := ⟨_, rfl⟩
                      rw [hn1e] at Cc1 hbb1 N1 N2 NB1 NB2 NC1 NC2 NP2 k1 kf1 NEW HRc1
                      rw [hn2e] at Cc2 hbb2 N2 NB2 NC2 NP2 NEW
                      clear hn1e hn2e
                      go_upto_region 36 with (fail)
                      go_cut [] (fun wz => wz = wy.setCell ⟨bo, 0, none⟩ (.bool (eE || decide (q ≤ n1))))
                      case first =>
                        clear k1 kf1 bo1 bf1
                        cases eE with
                        | true =>
                          go_wp2
                          go_meet
                          rfl
                        | false =>
                          go_wp2_with fail
                          refine (Cc1.out _ HRc.out).mono ?_
                          rintro e w' ⟨rfl, rfl⟩
                          go_wp2
                          go_meet
                          simp
                      case rest =>
                        subst hcut
                        clear bo0 bo1 bf0 bf1
                        have FIN := Lib.hid (show PC ((wy.setCell ⟨bo, 0, none⟩ (.bool (eE || decide (q ≤ n1)))).setCell ⟨bo, 1, none⟩ (.bool (eI || decide (q ≤ n2)))) (.slice (some ⟨b12, 0, none⟩) n n) (.slice (some ⟨b8, 0, none⟩) n n) p cm n (r + 1) from
                          .inr ⟨by omega, PL.out, HCML.out, P3.out, HCM7.out, b12, b8, rfl, rfl, NP2.out, NC2.out⟩)
                        obtain ⟨wv, hwv⟩ : ∃ wv, wy.setCell ⟨bo, 0, none⟩ (.bool (eE || decide (q ≤ n1))) = wv := ⟨_, rfl⟩
                        rw [hwv] at k1 kf1 HRc1 FIN N2 NB2 ⊢
                        clear hwv
                        cases eI with
                        | true =>
                          go_wp2
                          go_roundw
                          case rel => exact ⟨r + 1, p, cm, _, _, by omega, by go_num, FIN.out, N2.out, NB2.out, NEW.out⟩
                          case measure => simp [intOf]; omega
                        | false =>
                          go_wp2_with fail
                          refine (Cc2.out _ HRc1.out).mono ?_
                          rintro e w' ⟨rfl, rfl⟩
                          go_wp2
                          go_roundw
                          case rel => exact ⟨r + 1, p, cm, _, _, by omega, by go_num, FIN.out, N2.out, NB2.out, NEW.out⟩
                          case measure => simp [intOf]; omega
    · obtain rfl : R = r := by omega
      have hdr : decide ((R : Int) < (R : Int)) = false := by simp
      have bo0 := HBO.out.cell 0 rfl
      have bo1 := HBO.out.cell 1 rfl
      have hend : dd = (eE, eI) := by
        have h := HD.out
        unfold DDr at h
        rw [List.drop_eq_nil_of_le (by have := HLC.out; omega : com.length ≤ R)] at h
        simpa [JM.dec] using h
      have HE := Lib.hid hend
      have HF := Lib.hid (HBL.out.trans (HB.out.mono (by omega)))
      clear hend HPC HBO HB
      go_wp2_with fail
      go_region
      all_goals go_wp2
      all_goals go_ret2
      all_goals exact ⟨by have h := HE.out; subst h; rfl, HF.out.drew⟩

end Go.Proofs.Ytmoemalkojckaaa.J
