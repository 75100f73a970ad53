import Derived.Test.YtmoemalkojckaaaProg
import Derived.Below
import Derived.Deep.Draws
import Derived.Deep.AppendLies
import Derived.OwnWalk
import Derived.Laws.MakeOwn
import Derived.Laws.OwnMore
import Derived.Deep.OwnRows
import Derived.Tactics
import Derived.Laws.Slices
import Derived.WalkKit
import Derived.KernelRfl
import Derived.RowKit3
import Derived.Deep.LoopGhost
import Derived.Deep.QuietTactic
import Derived.BigQuiet
import Derived.Deep.DeepCutAuto
import Derived.Deep.CutBlock
import Derived.Deep.RegionHeld3
import Derived.Laws.Rows
import Derived.Laws.BitsLemmas
import Derived.RowKit
import Derived.Lib.Hide
import Derived.WalkLawsBesides
import Derived.WalkSpells
import Derived.Deep.DeepFit
import Derived.Test.YtmoemalkojckaaaJ17
namespace Go.Proofs.Ytmoemalkojckaaa.J
open Go.RowKit
set_option linter.unusedVariables false
set_option linter.unusedSimpArgs false

theorem table_at (n R L B k N lo : Nat) (w : World) (hn : 1 ≤ n) (hn7 : n ≤ 7) (hR : 1 ≤ R) (hR3 : R ≤ 3) (hN : n * R = N) (hN21 : N ≤ 21) (hD : Blk w B (nums (digs (lens (chs n R L)) k)) 3) (hC : ChoAt w B lo (chs n R L)) :
    Calls Try.prog 37 #[.slice (some ⟨lo, 0, none⟩) N N, .slice (some ⟨B, 0, none⟩) N N, .int .i64 (n : Int)] w fun e w' =>
      ∃ A0 A1 c0 c1, e = .returned (.agg #[.slice A0 R c0, .slice A1 R c1]) ∧ (∀ wy : World, (∀ k, w.heap.size ≤ k → k < w'.heap.size → wy.heap[k]? = w'.heap[k]?) → Tab wy A0 A1 (itab (preOf n (n * R) (chs n R L) (digs (lens (chs n R L)) k))) (itab (comOf n (n * R) (chs n R L) (digs (lens (chs n R L)) k)))) ∧ Below w.heap.size w w' := by
  have hlen : (digs (lens (chs n R L)) k).length = N := by rw [digs_length, lens_length, chs_length, hN]
  have h1 : ∀ i, i < (lens (chs n R L)).length → 1 ≤ (lens (chs n R L)).getD i 0 := fun i hi => by
    rw [lens_length, chs_length] at hi
    rw [lens_get, chs_get n R L i hi]
    exact prs_pos _
  have hin := digs_in (lens (chs n R L)) h1 k
  have hc := table_calls B lo B (chs n R L) (digs (lens (chs n R L)) k) n w hn (by omega) (by rw [hlen, chs_length, hN]) (by omega) (Nat.le_of_lt hD.lt) hD hC
    (fun d hd => by rw [← lens_get]; exact hin d (by rw [lens_length, chs_length, hN]; omega))
    (fun d => by
      by_cases h : d < n * R
      · rw [chs_get n R L d h, prs32]; split <;> omega
      · have : (chs n R L).getD d [] = [] := by rw [List.getD, List.getElem?_eq_none (by rw [chs_length]; omega)]; rfl
        rw [this]; simp)
    (fun d => (pickP (chs n R L) (digs (lens (chs n R L)) k) d).1) (fun d => (pickP (chs n R L) (digs (lens (chs n R L)) k) d).2) (fun d => rfl) (fun d => rfl)
  rw [hlen] at hc
  refine hc.mono ?_
  rintro e w' ⟨vP, vC, gP, gC, rfl, hP, hCc, hb⟩
  rw [← hN] at hP hCc
  have lP : (rowsK (fun d => (pickP (chs n R L) (digs (lens (chs n R L)) k) d).1) n (n * R)).length = R := rowsK_full_length _ _ _ hn
  have lC : (rowsK (fun d => (pickP (chs n R L) (digs (lens (chs n R L)) k) d).2) n (n * R)).length = R := rowsK_full_length _ _ _ hn
  obtain ⟨A0, c0, rfl, _, b0⟩ := hP.tab (by omega)
  obtain ⟨A1, c1, rfl, _, b1⟩ := hCc.tab (by omega)
  rw [lP] at hP ⊢
  rw [lC] at hCc ⊢
  refine ⟨A0, A1, c0, c1, rfl, fun wy hy => ?_, hb⟩
  obtain ⟨A0', c0', e0, t0, _⟩ := (hP.move (w' := wy) (fun k hk => hy k (hP.lt hk).1 (hP.lt hk).2)).tab (by omega)
  obtain ⟨A1', c1', e1, t1, _⟩ := (hCc.move (w' := wy) (fun k hk => hy k (hCc.lt hk).1 (hCc.lt hk).2)).tab (by omega)
  injection e0 with e0
  injection e1 with e1
  subst e0 e1
  refine ⟨t0, t1, ?_, ?_, fun r => ?_, fun r => ?_⟩
  · rw [itab_length]; unfold preOf; omega
  · rw [itab_length]; unfold comOf; omega
  · have := b0 r; unfold preOf; omega
  · have := b1 r; unfold comOf; omega

def SearchEnd (n R L : Nat) (w : World) (e : Ending) (w' : World) : Prop :=
  e = .returned (if 1048576 < prodK n R L (n * R) then resV 0 0 0 5 else resV (prodK n R L (n * R) : Nat) ((seek n (n * R) (chs n R L) (lens (chs n R L)) (prodK n R L (n * R))).1 : Nat) (seek n (n * R) (chs n R L) (lens (chs n R L)) (prodK n R L (n * R))).2 0) ∧ Below w.heap.size w w'

set_option maxHeartbeats 6400000 in
set_option maxRecDepth 100000 in
theorem search_good (n R L : Nat) (w : World) (hn : 1 ≤ n) (hn7 : n ≤ 7) (hR : 1 ≤ R) (hR3 : R ≤ 3) (hL : L ≤ n) :
    Calls Try.prog 18 #[.int .i64 (n : Int), .int .i64 (R : Int), .int .i64 (L : Int)] w (SearchEnd n R L w) := by
  have hmk := fun (N : Nat) (hN : N ≤ 1000) wx => Go.run_make_row' (P := Try.prog) 69 70 (.slice none 0 0) 24 Try.underlying69 info70 rfl .i64 .i64 N (by omega) (by omega) wx
  have hmk3 := fun (N : Nat) (hN : N ≤ 1000) wx => Go.run_make_row' (P := Try.prog) 45 3 (.int .i64 0) 8 Try.underlying45 info3 rfl .i64 .i64 N (by omega) (by omega) wx
  have hN21 : n * R ≤ 21 := by have := Nat.mul_le_mul hn7 hR3; omega
  have hN1 : 1 ≤ n * R := Nat.mul_pos hn hR
  have HST := Lib.hid (L1.start w n R L)
  have hmkN := hmk (n * R) (by omega)
  have hmkN3 := hmk3 (n * R) (by omega)
  simp only [mk_nums] at hmkN3
  have HDONE := Lib.hid (fun (wr : World) (vs : List Value) (h : L1 w wr n R L (n * R) vs) (t : Int) ht => h.done t ht)
  have HPS := Lib.hid (fun k => prodK_succ n R L k)
  have HPM := Lib.hid (fun i (h : i ≤ n * R) => prodK_mono n R L i (n * R) h)
  have HNX := Lib.hid (fun (wr w1 : World) (d : Nat) (vs : List Value) (v : Value) (h : L1 w wr n R L d vs) (hd : d < n * R) (hP : PR wr w1 (decide (d % n < L)) 32 v) => h.next hd hP)
  have HCL := Lib.hid (fun (wr : World) (d i : Nat) (vs : List Value) (h : L1 w wr n R L d vs) (hi : i < d) (hd : d ≤ n * R) => h.cell hi hd)
  have hmul : (n : Int) * (R : Int) = ((n * R : Nat) : Int) := by simp
  obtain ⟨N, hN⟩ : ∃ N, n * R = N := ⟨_, rfl⟩
  rw [hN] at hN21 hN1 hmkN hmkN3 hmul
  have HN := Lib.hid hN
  clear hmk hmk3 hN
  unfold resV at *
  have d1 : decide ((n : Int) < 1) = false := decide_eq_false (by omega)
  have d2 : decide ((n : Int) > 7) = false := decide_eq_false (by omega)
  have d3 : decide ((R : Int) < 1) = false := decide_eq_false (by omega)
  have d4 : decide ((R : Int) > 3) = false := decide_eq_false (by omega)
  have d5 : decide ((L : Int) < 0) = false := decide_eq_false (by omega)
  have d6 : decide ((L : Int) > (n : Int)) = false := decide_eq_false (by omega)
  have d7 : decide (L > n) = false := decide_eq_false (by omega)
  go_enter Try.func18, Try.ntmps18
  go_wp2_with fail
  go_loopw [9, 47] (fun v9 i wr => ∃ (d : Nat) (vs : List Value), d ≤ N ∧ i = .int .i64 d ∧ v9 = .int .i64 (prodK n R L d : Nat) ∧ prodK n R L d ≤ 1048576 ∧ L1 w wr n R L d vs) (fun _ i _ => N - (intOf i).toNat)
  case atStart => exact ⟨0, _, by omega, rfl, by simp [prodK], by simp [prodK], by rw [← HN.out]; exact HST.out⟩
  case round =>
    obtain ⟨d, vs, hd, rfl, rfl, hp, hL1⟩ := hrel
    by_cases hlt : d < N
    · obtain ⟨b, hb⟩ : ∃ b, decide (d % n < L) = b := ⟨_, rfl⟩
      have hbI : decide ((d : Int) % (n : Int) < (L : Int)) = b := by
        rw [← hb, ← Int.natCast_emod]
        simp only [decide_eq_decide]
        omega
      have hps := HPS.out d
      rw [hb] at hps
      have HPn := Lib.hid (pairs_calls b)
      have HNX2 := Lib.hid (fun (w1 : World) (v : Value) (hP : PR wr w1 b 32 v) => HNX.out wr w1 d vs v hL1 (by rw [HN.out]; exact hlt) (by rw [hb]; exact hP))
      have HPSb := Lib.hid hps
      have HBb := Lib.hid hb
      clear hps hb
      go_wp2_with fail
      refine (HPn.out _).mono ?_
      rintro e w1 ⟨v, rfl, hPR⟩
      have hN1 := HNX2.out w1 v hPR
      obtain ⟨g, cap, hg, rfl, -⟩ := hPR.pairs
      have hch := hL1.cho.below hPR.below hL1.cho.lt
      have hcell := hch.cell d (vget (by rw [hL1.len, HN.out]; exact hlt))
      have hfz := hch.free d
      have hlen : (prs b 32).length = if b then 32 else 12 := prs32 b
      have hpm := HPM.out (d + 1) (by rw [HN.out]; omega)
      rw [HPSb.out] at hpm
      obtain ⟨p, hpd⟩ : ∃ p, prodK n R L d = p := ⟨_, rfl⟩
      rw [hpd] at hp hpm ⊢
      have HPD := Lib.hid hpd
      have HN1 := Lib.hid hN1
      generalize vs.getD d undef = old at hcell
      clear hN1 hpd hch hPR HNX2
      cases b with
      | true =>
        rw [if_pos rfl] at hlen
        rw [hlen] at hpm HN1
        have HLEN := Lib.hid hlen
        have hw32 : (prs true 32).length = 32 := hlen
        clear hlen
        by_cases hbig : 1048576 < p * 32
        · have HFULL := Lib.hid (show 1048576 < prodK n R L (n * R) by rw [HN.out]; rw [← HN.out]; omega)
          have hre := HN1.out.res
          have hbw := HN1.out.below
          have HRES := Lib.hid hre
          have HBW := Lib.hid hbw
          have r0 := hre.cell 0 rfl
          have r1 := hre.cell 1 rfl
          have r2 := hre.cell 2 rfl
          have z0 := hre.free 0
          have z1 := hre.free 1
          have z2 := hre.free 2
          clear hre hbw hpm
          go_wp2
          have hr3 := ((HRES.out.set 0 (.int .i64 0)).set 1 (.int .i64 0)).set 2 (.int .i64 0)
          have f0 := hr3.cell 0 (v := .int .i64 0) rfl
          have f1 := hr3.cell 1 (v := .int .i64 0) rfl
          have f2 := hr3.cell 2 (v := .int .i64 0) rfl
          exact bodyPost_ret (v := .tuple #[.agg #[.int .i64 0, .int .i64 0, .int .i64 0], .int .i64 5]) (by simp [results, Try.results18, go_sem, f0, f1, f2]) rfl ⟨by rw [if_pos HFULL.out]; rfl, ((HBW.out.setCell (by simp) _).setCell (by simp) _).setCell (by simp) _⟩
        · have HPK := Lib.hid (show prodK n R L (d + 1) = p * 32 by rw [HPSb.out, HPD.out, HLEN.out])
          clear hpm
          go_wp2
          go_roundw
          case rel => exact ⟨d + 1, _, by omega, by go_num, by rw [HPK.out]; go_num, by rw [HPK.out]; omega, HN1.out⟩
          case measure => simp [intOf]; omega
      | false =>
        rw [if_neg (by simp)] at hlen
        rw [hlen] at hpm HN1
        have HLEN := Lib.hid hlen
        have hw32 : (prs false 32).length = 12 := hlen
        clear hlen
        by_cases hbig : 1048576 < p * 12
        · have HFULL := Lib.hid (show 1048576 < prodK n R L (n * R) by rw [HN.out]; rw [← HN.out]; omega)
          have hre := HN1.out.res
          have hbw := HN1.out.below
          have HRES := Lib.hid hre
          have HBW := Lib.hid hbw
          have r0 := hre.cell 0 rfl
          have r1 := hre.cell 1 rfl
          have r2 := hre.cell 2 rfl
          have z0 := hre.free 0
          have z1 := hre.free 1
          have z2 := hre.free 2
          clear hre hbw hpm
          go_wp2
          have hr3 := ((HRES.out.set 0 (.int .i64 0)).set 1 (.int .i64 0)).set 2 (.int .i64 0)
          have f0 := hr3.cell 0 (v := .int .i64 0) rfl
          have f1 := hr3.cell 1 (v := .int .i64 0) rfl
          have f2 := hr3.cell 2 (v := .int .i64 0) rfl
          exact bodyPost_ret (v := .tuple #[.agg #[.int .i64 0, .int .i64 0, .int .i64 0], .int .i64 5]) (by simp [results, Try.results18, go_sem, f0, f1, f2]) rfl ⟨by rw [if_pos HFULL.out]; rfl, ((HBW.out.setCell (by simp) _).setCell (by simp) _).setCell (by simp) _⟩
        · have HPK := Lib.hid (show prodK n R L (d + 1) = p * 12 by rw [HPSb.out, HPD.out, HLEN.out])
          clear hpm
          go_wp2
          go_roundw
          case rel => exact ⟨d + 1, _, by omega, by go_num, by rw [HPK.out]; go_num, by rw [HPK.out]; omega, HN1.out⟩
          case measure => simp [intOf]; omega
    · obtain rfl : d = N := by omega
      have hdone := HDONE.out wr vs (by rw [HN.out]; exact hL1)
      rw [HN.out] at hdone
      have HT := Lib.hid (fun (B k : Nat) (wx : World) (hD : Blk wx B (nums (digs (lens (chs n R L)) k)) 3) (hC : ChoAt wx B (w.heap.size + 1) (chs n R L)) => table_at n R L B k d (w.heap.size + 1) wx hn hn7 hR hR3 HN.out (by omega) hD hC)
      obtain ⟨T, hTd⟩ : ∃ T, prodK n R L d = T := ⟨_, rfl⟩
      rw [hTd] at hp hdone ⊢
      have hdone2 := Lib.hid (hdone (T : Int) rfl)
      have HTD := Lib.hid hTd
      clear hTd hdone hL1
      go_wp2_with fail
      obtain ⟨wo, hwo⟩ : ∃ wo : World, wo = wr := ⟨_, rfl⟩
      subst hwo
      go_loopw [76] (fun i wx => ∃ (k f : Nat) (l : Int), k ≤ T ∧ i = .int .i64 k ∧ SI w wx wo.heap.size n R L (digs (lens (chs n R L)) k) f l ∧ Hid (seek n (n * R) (chs n R L) (lens (chs n R L)) k = (f, l))) (fun i _ => T - (intOf i).toNat)
      case atStart => exact ⟨0, 0, -1, by omega, rfl, hdone2.out, rfl⟩
      case round =>
        clear hdone2
        obtain ⟨k, f, l, hk, rfl, hS, hseek⟩ := hrel
        by_cases hlt2 : k < T
        · have hv := valid_of n R L (digs (lens (chs n R L)) k) hn hn7 hR hR3
          have hsk : seek n (n * R) (chs n R L) (lens (chs n R L)) (k + 1) = if forkB n (preOf n (n * R) (chs n R L) (digs (lens (chs n R L)) k)) (comOf n (n * R) (chs n R L) (digs (lens (chs n R L)) k)) then (f + 1, lstep l (JM.nconf n (preOf n (n * R) (chs n R L) (digs (lens (chs n R L)) k)) (comOf n (n * R) (chs n R L) (digs (lens (chs n R L)) k)))) else (f, l) := by
            rw [seek]
            simp only [hseek.out]
          have hbd := seek_le n (n * R) (chs n R L) (lens (chs n R L)) k
          rw [hseek.out] at hbd
          have hf1 : f ≤ k := hbd.1
          have hl1 : -1 ≤ l := hbd.2.1
          have hl2 : l ≤ n := hbd.2.2
          have HTk := Lib.hid (HT.out wo.heap.size k)
          have HADV := Lib.hid (fun (wx : World) (hD : Blk wx wo.heap.size (nums (digs (lens (chs n R L)) k)) 3) (hC : ChoAt wx wo.heap.size (w.heap.size + 1) (chs n R L)) => advance_calls wo.heap.size (w.heap.size + 1) (chs n R L) (digs (lens (chs n R L)) k) wx (by rw [digs_length, lens_length]) (by rw [digs_length, lens_length, chs_length, HN.out]; omega) hD hC
            (fun i => by
              by_cases hi : i < (lens (chs n R L)).length
              · have h1 : ∀ i, i < (lens (chs n R L)).length → 1 ≤ (lens (chs n R L)).getD i 0 := fun i hi => by
                  rw [lens_length, chs_length] at hi
                  rw [lens_get, chs_get n R L i hi]
                  exact prs_pos _
                have h2 := digs_in (lens (chs n R L)) h1 k i hi
                rw [lens_length, chs_length] at hi
                rw [lens_get, chs_get n R L i hi, prs32] at h2
                split at h2 <;> omega
              · have : (digs (lens (chs n R L)) k).getD i 0 = 0 := getD_out (by rw [digs_length]; omega)
                omega)
            (fun i => by
              by_cases h : i < n * R
              · rw [chs_get n R L i h, prs32]; split <;> omega
              · have : (chs n R L).getD i [] = [] := by rw [List.getD, List.getElem?_eq_none (by rw [chs_length]; omega)]; rfl
                rw [this]; simp))
          have hdl : (digs (lens (chs n R L)) k).length = d := by rw [digs_length, lens_length, chs_length, HN.out]
          rw [hdl] at HADV
          have HADV2 : Hid (∀ (wx : World), Blk wx wo.heap.size (nums (digs (lens (chs n R L)) k)) 3 → ChoAt wx wo.heap.size (w.heap.size + 1) (chs n R L) → Calls Try.prog 38 #[.slice (some ⟨w.heap.size + 1, 0, none⟩) d d, .slice (some ⟨wo.heap.size, 0, none⟩) d d] wx fun e w' => e = .returned (.tuple #[]) ∧ Blk w' wo.heap.size (nums (digs (lens (chs n R L)) (k + 1))) 3 ∧ wx.grownBy w' (some wo.heap.size)) := HADV
          obtain ⟨P, hP⟩ : ∃ P, preOf n (n * R) (chs n R L) (digs (lens (chs n R L)) k) = P := ⟨_, rfl⟩
          obtain ⟨C, hC⟩ : ∃ C, comOf n (n * R) (chs n R L) (digs (lens (chs n R L)) k) = C := ⟨_, rfl⟩
          rw [hP, hC] at HTk hv hsk
          have lP : P.length = R := by rw [← hP]; exact rowsK_full_length _ _ _ hn
          have lC : C.length = R := by rw [← hC]; exact rowsK_full_length _ _ _ hn
          have HDEC := Lib.hid (fun A0 A1 c0 c1 wx (hx : Tab wx A0 A1 (itab P) (itab C)) => decidable_calls P C n hv A0 A1 c0 c1 wx hx (validB_of hv))
          have HCON := Lib.hid (fun A0 A1 c0 c1 wx (hx : Tab wx A0 A1 (itab P) (itab C)) => conflicted_calls P C n hv A0 A1 c0 c1 wx hx (validB_of hv))
          rw [lP, lC] at HDEC HCON
          have hcn := nconf_mask hv
          have hmk2 : maskOf 7 (JM.conf P C) < 1024 := Nat.lt_of_lt_of_le (maskOf_lt 7 _) (by decide)
          have HSZ := Lib.hid (fun wx => size_calls (maskOf 7 (JM.conf P C)) hmk2 wx)
          rw [hcn] at HSZ
          have hnc : JM.nconf n P C ≤ n := Nat.le_trans List.countP_le_length (by simp)
          have HSK := Lib.hid hsk
          have HSEEK := Lib.hid hseek.out
          clear hsk hbd hdl HADV hP hC lP lC hcn hmk2 hv hseek
          unfold forkB at HSK
          obtain ⟨a, ha⟩ : ∃ a, (JM.decT n P C).1 = a := ⟨_, rfl⟩
          obtain ⟨b, hb⟩ : ∃ b, (JM.decT n P C).2 = b := ⟨_, rfl⟩
          rw [ha, hb] at HDEC HSK
          obtain ⟨cc, hcc⟩ : ∃ c, JM.nconf n P C = c := ⟨_, rfl⟩
          rw [hcc] at HSK HSZ hnc
          obtain ⟨mm, hmm⟩ : ∃ c, maskOf 7 (JM.conf P C) = c := ⟨_, rfl⟩
          rw [hmm] at HCON HSZ
          clear ha hb hcc hmm
          have hkI : (k : Int) < (T : Int) := by omega
          go_wp2_with fail
          refine (HTk.out _ hS.dig hS.cho).mono ?_
          rintro e w3 ⟨A0, A1, c0, c1, rfl, htab, hb3⟩
          have hS3 := hS.keep hb3
          have hal : Below w3.heap.size w3 (w3.alloc (.cells #[.slice A0 R c0, .slice A1 R c1] 24)) := (Below.refl _ _).alloc (Nat.le_refl _) _
          have hS4 := hS3.keep hal
          have HT4 := Lib.hid (htab (w3.alloc (.cells #[.slice A0 R c0, .slice A1 R c1] 24)) (fun k _ hk => Below.heap_alloc _ _ _ hk))
          have HTAB := Lib.hid htab
          have hbx := Blk.new w3 #[.slice A0 R c0, .slice A1 R c1] 24
          have HS4 := Lib.hid hS4
          have HBX := Lib.hid hbx
          have hne3 : wo.heap.size + 1 < w3.heap.size := hS3.fnd.lt
          have hne2 : wo.heap.size + 1 < wr.heap.size := hS.fnd.lt
          clear hS hS3 hb3 htab hal hS4 hbx
          go_wp2_with fail
          refine (HDEC.out A0 A1 c0 c1 _ HT4.out).mono ?_
          rintro e w5 ⟨rfl, hb5⟩
          have hS5 := HS4.out.keep hb5
          have hbx5 := HBX.out.below hb5 (by simp)
          have HEQ5 := Lib.hid (fun k (hk : k < w3.heap.size) => (hb5.block k (by simp; omega)).trans (Below.heap_alloc w3 (.cells #[.slice A0 R c0, .slice A1 R c1] 24) k hk))
          have HS5 := Lib.hid hS5
          have x0 := hbx5.cell 0 rfl
          have x1 := hbx5.cell 1 rfl
          have q1 := hS5.fnd.cell 1 rfl
          have q2 := hS5.fnd.cell 2 rfl
          have z1 := hS5.fnd.free 1
          have z2 := hS5.fnd.free 2
          clear hb5 hS5 HS4 HBX HT4 hbx5
          cases a with
          | false =>
            have hs2 : seek n (n * R) (chs n R L) (lens (chs n R L)) (k + 1) = (f, l) := HSK.out
            have HS2 := Lib.hid hs2
            clear hs2
            go_wp2_with fail
            refine (HADV2.out _ HS5.out.dig HS5.out.cho).mono ?_
            rintro e w9 ⟨rfl, hB9, hg9⟩
            have HS9 := Lib.hid (HS5.out.adv hB9 hg9)
            clear hB9 hg9
            go_wp2
            go_roundw
            case rel => exact ⟨k + 1, f, l, by omega, by go_num, HS9.out, HS2.out⟩
            case measure => simp [intOf]; omega
          | true =>
            cases b with
            | false =>
              have hs2 : seek n (n * R) (chs n R L) (lens (chs n R L)) (k + 1) = (f, l) := HSK.out
              have HS2 := Lib.hid hs2
              clear hs2
              go_wp2_with fail
              refine (HADV2.out _ HS5.out.dig HS5.out.cho).mono ?_
              rintro e w9 ⟨rfl, hB9, hg9⟩
              have HS9 := Lib.hid (HS5.out.adv hB9 hg9)
              clear hB9 hg9
              go_wp2
              go_roundw
              case rel => exact ⟨k + 1, f, l, by omega, by go_num, HS9.out, HS2.out⟩
              case measure => simp [intOf]; omega
            | true =>
              have hs2 : seek n (n * R) (chs n R L) (lens (chs n R L)) (k + 1) = (f + 1, lstep l cc) := HSK.out
              have HS2 := Lib.hid hs2
              clear hs2
              have hf64 : ((f : Int) + 1) = ((f + 1 : Nat) : Int) := by omega
              have hS6 := HS5.out.setF (f + 1)
              rw [← hf64] at hS6
              have HF64 := Lib.hid hf64
              clear hf64
              have HS6 := Lib.hid hS6
              have hne4 : w3.heap.size ≠ wo.heap.size + 1 := by omega
              have x0' : (w5.setCell ⟨wo.heap.size + 1, 1, none⟩ (.int .i64 ((f : Int) + 1))).cell? ⟨w3.heap.size, 0, none⟩ = some (.slice A0 R c0) := (World.cell?_of_block (Below.heap_setCell _ _ _ _ hne4)).trans x0
              have x1' : (w5.setCell ⟨wo.heap.size + 1, 1, none⟩ (.int .i64 ((f : Int) + 1))).cell? ⟨w3.heap.size, 1, none⟩ = some (.slice A1 R c1) := (World.cell?_of_block (Below.heap_setCell _ _ _ _ hne4)).trans x1
              have HT6 : Hid (Tab (w5.setCell ⟨wo.heap.size + 1, 1, none⟩ (.int .i64 ((f : Int) + 1))) A0 A1 (itab P) (itab C)) := Lib.hid (HTAB.out _ (fun k hk1 hk2 => (Below.heap_setCell _ _ _ _ (by show k ≠ wo.heap.size + 1; omega)).trans (HEQ5.out k hk2)))
              clear hS6
              go_wp2_with fail
              refine (HCON.out A0 A1 c0 c1 _ HT6.out).mono ?_
              rintro e w7 ⟨rfl, hb7⟩
              have hS7 := HS6.out.keep hb7
              have HS7 := Lib.hid hS7
              have y2 := hS7.fnd.cell 2 rfl
              have v2 := hS7.fnd.free 2
              clear hb7 hS7 HS6 HT6 x0' x1' q1 q2 z1 z2 x0 x1
              go_wp2_with fail
              refine (HSZ.out _).mono ?_
              rintro e w' ⟨rfl, rfl⟩
              by_cases hl0 : l < 0
              · have HLS := Lib.hid (show lstep l cc = (cc : Int) by unfold lstep; rw [if_pos (.inl hl0)])
                have HS8 := Lib.hid (HS7.out.setL (cc : Int))
                go_wp2_with fail
                refine (HADV2.out _ HS8.out.dig HS8.out.cho).mono ?_
                rintro e w9 ⟨rfl, hB9, hg9⟩
                have HS9 := Lib.hid (HS8.out.adv hB9 hg9)
                clear hB9 hg9
                go_wp2
                go_roundw
                case rel => exact ⟨k + 1, f + 1, cc, by omega, by go_num, HS9.out, by rw [← HLS.out]; exact HS2.out⟩
                case measure => simp [intOf]; omega
              · by_cases hl1' : (cc : Int) < l
                · have HLS := Lib.hid (show lstep l cc = (cc : Int) by unfold lstep; rw [if_pos (.inr hl1')])
                  have HS8 := Lib.hid (HS7.out.setL (cc : Int))
                  go_wp2_with fail
                  refine (HADV2.out _ HS8.out.dig HS8.out.cho).mono ?_
                  rintro e w9 ⟨rfl, hB9, hg9⟩
                  have HS9 := Lib.hid (HS8.out.adv hB9 hg9)
                  clear hB9 hg9
                  go_wp2
                  go_roundw
                  case rel => exact ⟨k + 1, f + 1, cc, by omega, by go_num, HS9.out, by rw [← HLS.out]; exact HS2.out⟩
                  case measure => simp [intOf]; omega
                · have HLS := Lib.hid (show lstep l cc = l by unfold lstep; rw [if_neg (by omega)])
                  go_wp2_with fail
                  refine (HADV2.out _ HS7.out.dig HS7.out.cho).mono ?_
                  rintro e w9 ⟨rfl, hB9, hg9⟩
                  have HS9 := Lib.hid (HS7.out.adv hB9 hg9)
                  clear hB9 hg9
                  go_wp2
                  go_roundw
                  case rel => exact ⟨k + 1, f + 1, l, by omega, by go_num, HS9.out, by rw [← HLS.out]; exact HS2.out⟩
                  case measure => simp [intOf]; omega
        · obtain rfl : k = T := by omega
          have g0 := hS.fnd.cell 0 rfl
          have g1 := hS.fnd.cell 1 rfl
          have g2 := hS.fnd.cell 2 rfl
          have hre := hS.res
          have r0 := hre.cell 0 rfl
          have r1 := hre.cell 1 rfl
          have r2 := hre.cell 2 rfl
          have z0 := hre.free 0
          have z1 := hre.free 1
          have z2 := hre.free 2
          have HRES := Lib.hid hre
          have HBW := Lib.hid hS.below
          rw [HN.out, HTD.out] at g0
          have HNF := Lib.hid (show ¬ 1048576 < prodK n R L (n * R) by rw [HN.out, HTD.out]; omega)
          have HSEE := Lib.hid (show seek n (n * R) (chs n R L) (lens (chs n R L)) (prodK n R L (n * R)) = (f, l) by rw [show prodK n R L (n * R) = k by rw [HN.out, HTD.out]]; exact hseek.out)
          have HPN := Lib.hid (show prodK n R L (n * R) = k by rw [HN.out, HTD.out])
          clear hre hS hseek
          go_wp2
          have hr3 := ((HRES.out.set 0 (.int .i64 (k : Int))).set 1 (.int .i64 (f : Int))).set 2 (.int .i64 l)
          have f0 := hr3.cell 0 (v := .int .i64 (k : Int)) rfl
          have f1 := hr3.cell 1 (v := .int .i64 (f : Int)) rfl
          have f2 := hr3.cell 2 (v := .int .i64 l) rfl
          exact bodyPost_ret (v := .tuple #[.agg #[.int .i64 (k : Int), .int .i64 (f : Int), .int .i64 l], .int .i64 0]) (by simp [results, Try.results18, go_sem, f0, f1, f2]) rfl ⟨by rw [if_neg HNF.out, HSEE.out, HPN.out]; rfl, ((HBW.out.setCell (by simp) _).setCell (by simp) _).setCell (by simp) _⟩

end Go.Proofs.Ytmoemalkojckaaa.J
