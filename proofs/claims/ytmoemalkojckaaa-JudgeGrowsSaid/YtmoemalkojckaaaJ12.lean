import Derived.Test.YtmoemalkojckaaaProg
import Derived.Below
import Derived.Deep.Draws
import Derived.Deep.AppendLies
import Derived.OwnWalk
import Derived.Laws.MakeOwn
import Derived.Laws.OwnMore
import Derived.Deep.OwnRows
import Derived.Tactics
import Derived.Laws.Slices
import Derived.WalkKit
import Derived.KernelRfl
import Derived.RowKit3
import Derived.Deep.LoopGhost
import Derived.Deep.QuietTactic
import Derived.BigQuiet
import Derived.Deep.DeepCutAuto
import Derived.Deep.CutBlock
import Derived.Deep.RegionHeld3
import Derived.Laws.Rows
import Derived.Laws.BitsLemmas
import Derived.RowKit
import Derived.Lib.Hide
import Derived.WalkLawsBesides
import Derived.WalkSpells
import Derived.Deep.DeepFit
import Derived.Test.YtmoemalkojckaaaJ11
namespace Go.Proofs.Ytmoemalkojckaaa.J
open Go.RowKit
set_option linter.unusedVariables false
set_option linter.unusedSimpArgs false

theorem cell_of_below {w wr : World} (hb : Below w.heap.size w wr) {a : Addr} {v : Value} (h : w.cell? a = some v) : wr.cell? a = some v :=
  (hb.cell (World.block_lt_of_cell? w a h)).trans h

theorem pK_zero (n1 n2 q : Nat) : pK n1 n2 q 0 = 0 := by simp [pK]
theorem pK_one (n1 n2 q : Nat) : pK n1 n2 q 1 = if q ≤ n1 then 1 else 0 := by simp [pK]
theorem pK_two (n1 n2 q : Nat) : pK n1 n2 q 2 = (if q ≤ n1 then 1 else 0) ||| (if q ≤ n2 then 2 else 0) := by simp [pK]
theorem poss_pK (pre : List Nat) (q : Nat) : JM.poss pre q = pK (JM.cnt pre 1) (JM.cnt pre 2) q 2 ||| (if JM.bothQ pre q = true then 4 else 0) := by rw [pK_two]; rfl

/-- The decided choices and the next round's choices after k of the two have been looked at. -/
def vK (a b c d : Bool) (k : Nat) : Nat := code2 (a || (decide (1 ≤ k) && b)) (c || (decide (2 ≤ k) && d))
theorem vK_le (a b c d : Bool) (k : Nat) : vK a b c d k ≤ 3 := code2_le _ _
theorem vK_yes (a b c d : Bool) (k : Nat) (hk : k < 2) (h : (if k = 0 then b else d) = true) : Go.bits .or .i64 (vK a b c d k : Int) ((k + 1 : Nat) : Int) = (vK a b c d (k + 1) : Int) := by
  have : k = 0 ∨ k = 1 := by omega
  rcases this with rfl | rfl
  · have h' : b = true := by simpa using h
    subst h'
    simp only [vK]
    cases a <;> cases c <;> cases d <;> decide +kernel
  · have h' : d = true := by simpa using h
    subst h'
    simp only [vK]
    cases a <;> cases b <;> cases c <;> decide +kernel
theorem vK_no (a b c d : Bool) (k : Nat) (hk : k < 2) (h : (if k = 0 then b else d) = false) : vK a b c d (k + 1) = vK a b c d k := by
  have : k = 0 ∨ k = 1 := by omega
  rcases this with rfl | rfl
  · have h' : b = false := by simpa using h
    subst h'
    simp [vK]
  · have h' : d = false := by simpa using h
    subst h'
    simp [vK]
theorem vK_end (a b c d : Bool) : vK a b c d 2 = code2 (a || b) (c || d) := by simp [vK]

theorem cell12 (W : World) (k : Nat) (hk : k < 2) : (W.alloc (.cells #[.int .i64 1, .int .i64 2] 3)).cell? ⟨W.heap.size, k, none⟩ = some (.int .i64 ((k + 1 : Nat) : Int)) := by
  rw [World.cell?_alloc_at _ _ _ _ rfl]
  have : k = 0 ∨ k = 1 := by omega
  rcases this with rfl | rfl <;> rfl

theorem count_at (l : List Nat) (n c cap : Nat) (A : Option Addr) (hl : l.length = n) (h7 : ∀ x ∈ l, x ≤ 7) (hc : c ≤ 7) (hlen : n ≤ 1000) (w : World) (hr : RowAt w A (ints l)) :
    Calls Try.prog 26 #[.slice A n cap, .int .i64 (c : Int)] w fun e w' => e = .returned (.int .i64 (JM.cnt l c : Nat)) ∧ w = w' := by
  subst hl
  exact count_calls l c cap A w h7 hc hlen hr

theorem kept_at (l : List Nat) (n c cap : Nat) (A : Option Addr) (hl : l.length = n) (h7 : ∀ x ∈ l, x ≤ 7) (hc : c ≤ 7) (hlen : n ≤ 1000) (w : World) (hr : RowAt w A (ints l)) :
    Calls Try.prog 28 #[.slice A n cap, .int .i64 (c : Int)] w fun e w' => e = .returned (.slice (some ⟨w.heap.size, 0, none⟩) n n) ∧ Blk w' w.heap.size (nums (JM.keep l c)) 3 ∧ Below w.heap.size w w' := by
  subst hl
  exact kept_calls l c cap A w h7 hc hlen hr

set_option maxHeartbeats 6400000 in
set_option maxRecDepth 100000 in
theorem decidable_calls (pre com : List (List Nat)) (n : Nat) (hv : JM.Valid n pre com) (A0 A1 : Option Addr) (c0 c1 : Nat) (w : World) (ht : Tab w A0 A1 (itab pre) (itab com)) (hvB : validB (itab pre) (itab com) = true) :
    Calls Try.prog 10 #[.agg #[.slice A0 pre.length c0, .slice A1 com.length c1]] w fun e w' => e = .returned (.tuple #[.bool (JM.decT n pre com).1, .bool (JM.decT n pre com).2]) ∧ Below w.heap.size w w' := by
  have hbel : Below w.heap.size w (w.alloc (.cells #[.slice A0 pre.length c0, .slice A1 com.length c1] 24)) := (Below.refl _ _).alloc (Nat.le_refl _) _
  have HV := Lib.hid (fun wx (hx : Tab wx A0 A1 (itab pre) (itab com)) => valid_calls (itab pre) (itab com) A0 A1 c0 c1 wx hx)
  have HT := Lib.hid ht
  have hpos := hv.pos
  have hR3 := hv.le
  have hlen := hv.len
  have hn1 := hv.n1
  have hn7 := hv.n7
  have hbox := Blk.new w #[.slice A0 pre.length c0, .slice A1 com.length c1] 24
  have hcell0 : ∃ b off A' c', A0 = some ⟨b, off, none⟩ ∧ w.cell? ⟨b, off, none⟩ = some (.slice A' n c') ∧ RowAt w A' (ints (pre.getD 0 [])) := by
    obtain ⟨b, off, A', c', e, hc, hRr⟩ := ht.p 0 (by rw [itab_length]; omega)
    rw [itab_getD, ints_length] at hc
    rw [itab_getD] at hRr
    have : (pre.getD 0 []).length = n := by
      have hm : pre.getD 0 [] ∈ pre := by
        have h0 : 0 < pre.length := by omega
        have : pre.getD 0 [] = pre[0] := by simp [List.getD, h0]
        rw [this]; exact List.getElem_mem _
      exact (hv.p _ hm).1
    rw [this, Nat.add_zero] at hc
    exact ⟨b, off, A', c', e, hc, hRr⟩
  obtain ⟨b0, off0, A', c', rfl, hc0, hR0⟩ := hcell0
  obtain ⟨R, hR⟩ : ∃ R, pre.length = R := ⟨_, rfl⟩
  rw [← hlen, hR] at hbel hbox ⊢
  rw [hR] at hpos hR3 hlen
  have HL := Lib.hid hR
  have HLC := Lib.hid hlen
  have HVV := Lib.hid hv
  rw [itab_length, itab_length, hR, ← hlen, hvB] at HV
  obtain ⟨W1, hW1⟩ : ∃ W1, w.alloc (.cells #[.slice (some ⟨b0, off0, none⟩) R c0, .slice A1 R c1] 24) = W1 := ⟨_, rfl⟩
  rw [hW1] at hbel hbox
  have HT1 := Lib.hid (ht.below hbel)
  have hc1 := cell_of_below hbel hc0
  have hR1 := hR0.below hbel
  have bx0 := hbox.cell 0 rfl
  have bx1 := hbox.cell 1 rfl
  have hbsz : W1.heap.size = w.heap.size + 1 := by rw [← hW1]; simp
  clear ht hvB hv hR hlen hc0 hR0
  have HQ := Lib.hid (fun wx => quorum_calls n hn1 (by omega) wx)
  have hq1 := JM.quorum_pos hn1
  have hqn : JM.quorum n ≤ n := by unfold JM.quorum; omega
  have HD := Lib.hid (show JM.decT n pre com = (false || (JM.dec (JM.quorum n) (pre.getD 0 []) (pre.drop 1) (com.drop 0)).1, false || (JM.dec (JM.quorum n) (pre.getD 0 []) (pre.drop 1) (com.drop 0)).2) by
    cases hp : pre with
    | nil => rw [hp] at HL; have := HL.out; simp at this; omega
    | cons p ps => simp [JM.decT])
  generalize JM.decT n pre com = dd at HD ⊢
  generalize JM.quorum n = q at *
  go_enter Try.func10, Try.ntmps10
  go_wp2_with fail
  have HW1 := Lib.hid hW1
  clear hW1
  refine (HV.out _ HT1.out).mono ?_
  rintro e w2 ⟨rfl, hb2⟩
  have hc2 := cell_of_below hb2 hc1
  have bx0' := cell_of_below hb2 bx0
  have bx1' := cell_of_below hb2 bx1
  go_wp2_with fail
  refine (HQ.out _).mono ?_
  rintro e w' ⟨rfl, rfl⟩
  go_wp2_with fail
  have HR0 := Lib.hid (hR1.below hb2)
  have HP0 := Lib.hid (show (pre.getD 0 []).length = n ∧ ∀ x ∈ pre.getD 0 [], x ≤ 3 from HVV.out.p _ (by
    have h0 : 0 < pre.length := by rw [HL.out]; omega
    have : pre.getD 0 [] = pre[0] := by simp [List.getD, h0]
    rw [this]; exact List.getElem_mem _))
  have HB2 := Lib.hid hb2
  have HBL := Lib.hid hbel
  have HBX := Lib.hid hbox
  clear hb2 hbel hR1 hc1 bx0 bx1 hc2 bx0' bx1' hbox
  go_loopw [5, 6, 33] (fun v5 v6 i wr => ∃ (r : Nat) (p : List Nat) (A2 : Option Addr) (c2 : Nat) (eE eI : Bool), r ≤ R ∧ i = .int .i64 r ∧ v5 = .slice A2 n c2 ∧ v6 = .int .i64 (code2 eE eI : Nat) ∧ Hid (RowAt wr A2 (ints p)) ∧ Hid (p.length = n) ∧ Hid (∀ x ∈ p, x ≤ 3) ∧ Hid (Below W1.heap.size W1 wr) ∧
      Hid (dd = (eE || (JM.dec q p (pre.drop (r + 1)) (com.drop r)).1, eI || (JM.dec q p (pre.drop (r + 1)) (com.drop r)).2))) (fun _ _ i _ => R - (intOf i).toNat)
  case atStart => exact ⟨0, pre.getD 0 [], _, _, false, false, by omega, rfl, rfl, rfl, HR0.out, HP0.out.1, HP0.out.2, HB2.out, HD.out⟩
  case round =>
    clear HD HR0 HP0 HB2
    obtain ⟨r, p, A2, c2, eE, eI, hr, rfl, rfl, rfl, HRow, HPl, HP3, HB, HD⟩ := hrel
    by_cases hlt : r < R
    · have hdr : decide ((r : Int) < (R : Int)) = true := decide_eq_true (by omega)
      have bx0 := cell_of_below HB.out (HBX.out.cell 0 rfl)
      have bx1 := cell_of_below HB.out (HBX.out.cell 1 rfl)
      have hwx : w.heap.size < wr.heap.size := World.block_lt_of_cell? wr _ bx0
      have C1 := Lib.hid (fun (k : Nat) (hk : k + 1 ≤ 7) (wx : World) (hx : RowAt wx A2 (ints p)) => count_at p n (k + 1) c2 A2 HPl.out (fun x hx => Nat.le_trans (HP3.out x hx) (by omega)) hk (by omega) wx hx)
      have hrow2 := Lib.hid (HRow.out.below ((Below.refl _ _).alloc (Nat.le_refl _) (.cells #[.int .i64 1, .int .i64 2] 3)))
      have H12 := Lib.hid (cell12 wr)
      have hb1 : JM.cnt p 1 ≤ 1000 := by have : JM.cnt p 1 ≤ p.length := List.countP_le_length; have := HPl.out; omega
      have hb2 : JM.cnt p 2 ≤ 1000 := by have : JM.cnt p 2 ≤ p.length := List.countP_le_length; have := HPl.out; omega
      go_wp2_with fail
      go_loop [8, 38] (fun v8 i => ∃ k : Nat, k ≤ 2 ∧ i = .int .i64 k ∧ v8 = .int .i64 (vK false (decide (q ≤ JM.cnt p 1)) false (decide (q ≤ JM.cnt p 2)) k : Nat)) (fun _ i => 2 - (intOf i).toNat)
      case atStart => exact ⟨0, by omega, rfl, rfl⟩
      case round =>
        obtain ⟨k, hk, rfl, rfl⟩ := hrel
        by_cases hlt2 : k < 2
        · have hcell := H12.out k hlt2
          have CK := Lib.hid (C1.out k (by omega))
          have hyes := vK_yes false (decide (q ≤ JM.cnt p 1)) false (decide (q ≤ JM.cnt p 2)) k hlt2
          have hno := vK_no false (decide (q ≤ JM.cnt p 1)) false (decide (q ≤ JM.cnt p 2)) k hlt2
          have hif : (if k = 0 then decide (q ≤ JM.cnt p 1) else decide (q ≤ JM.cnt p 2)) = decide (q ≤ JM.cnt p (k + 1)) := by
            have : k = 0 ∨ k = 1 := by omega
            rcases this with rfl | rfl <;> rfl
          rw [hif] at hyes hno
          have hbk : JM.cnt p (k + 1) ≤ 1000 := by have : JM.cnt p (k + 1) ≤ p.length := List.countP_le_length; have := HPl.out; omega
          clear hif
          obtain ⟨v, hv⟩ : ∃ v, vK false (decide (q ≤ JM.cnt p 1)) false (decide (q ≤ JM.cnt p 2)) k = v := ⟨_, rfl⟩
          obtain ⟨v2, hv2⟩ : ∃ v, vK false (decide (q ≤ JM.cnt p 1)) false (decide (q ≤ JM.cnt p 2)) (k + 1) = v := ⟨_, rfl⟩
          rw [hv, hv2] at hyes hno
          rw [hv]
          have HV2 := Lib.hid hv2
          clear hv hv2
          obtain ⟨x, hx⟩ : ∃ x, k + 1 = x := ⟨_, rfl⟩
          rw [hx] at hcell CK hyes hno hbk
          clear hx
          obtain ⟨m, hm⟩ : ∃ m, JM.cnt p x = m := ⟨_, rfl⟩
          rw [hm] at CK hyes hno hbk
          clear hm
          by_cases hqm : q ≤ m
          · have ho := hyes (by simpa using hqm)
            clear hyes hno
            go_wp2_with fail
            refine (CK.out _ hrow2.out).mono ?_
            rintro e w' ⟨rfl, rfl⟩
            go_wp2
            go_round
            case rel => exact ⟨k + 1, by omega, by go_num, by rw [HV2.out]⟩
            case measure => simp [intOf]; omega
          · have ho := Lib.hid (hno (by simpa using hqm))
            clear hyes hno
            go_wp2_with fail
            refine (CK.out _ hrow2.out).mono ?_
            rintro e w' ⟨rfl, rfl⟩
            go_wp2
            go_round
            case rel => exact ⟨k + 1, by omega, by go_num, by rw [HV2.out, ho.out]⟩
            case measure => simp [intOf]; omega
        · obtain rfl : k = 2 := by omega
          clear H12 C1
          have hpv : vK false (decide (q ≤ JM.cnt p 1)) false (decide (q ≤ JM.cnt p 2)) 2 = pK (JM.cnt p 1) (JM.cnt p 2) q 2 := by
            rw [vK_end, pK_two]
            by_cases a : q ≤ JM.cnt p 1 <;> by_cases b : q ≤ JM.cnt p 2 <;> simp [a, b, code2]
          rw [hpv]
          have hps := poss_pK p q
          have hv3 := pK_le (JM.cnt p 1) (JM.cnt p 2) q 2
          obtain ⟨v, hv⟩ : ∃ v, pK (JM.cnt p 1) (JM.cnt p 2) q 2 = v := ⟨_, rfl⟩
          rw [hv] at hps hv3 ⊢
          have HPS := Lib.hid hps
          clear hv hps hpv
          have CB := Lib.hid (fun (wx : World) (hx : RowAt wx A2 (ints p)) => both_calls p q c2 A2 wx (fun x hx => Nat.le_trans (HP3.out x hx) (by omega)) hq1 (by omega) (by rw [HPl.out]; omega) hx)
          rw [HPl.out] at CB
          obtain ⟨bq, hbq0⟩ : ∃ bq, JM.bothQ p q = bq := ⟨_, rfl⟩
          rw [hbq0] at CB
          have HBQ := Lib.hid hbq0
          clear hbq0
          go_wp2_with fail
          refine (CB.out _ hrow2.out).mono ?_
          rintro e w' ⟨rfl, rfl⟩
          go_upto_if 53 with (fail)
          go_cut [8] (fun v8 wx => v8 = .int .i64 (JM.poss p q : Nat) ∧ wx = wr.alloc (.cells #[.int .i64 1, .int .i64 2] 3))
          case first =>
            cases bq with
            | true =>
              have ho := or4 hv3
              have hp4 := HPS.out
              rw [if_pos HBQ.out] at hp4
              rw [← hp4] at ho
              clear hp4
              go_wp2
              go_meet
              exact ⟨rfl, rfl⟩
            | false =>
              have hp4 := HPS.out
              rw [if_neg (by rw [HBQ.out]; simp), Nat.or_zero] at hp4
              have hp5 := Lib.hid hp4
              clear hp4
              go_wp2
              go_meet
              exact ⟨by rw [hp5.out], rfl⟩
          case rest =>
            obtain ⟨rfl, rfl⟩ := hcut
            obtain ⟨b3, off3, A3, c3, e3, hc3, hRc⟩ := HT1.out.c r (by rw [itab_length]; have := HLC.out; omega)
            rw [itab_getD, ints_length] at hc3
            rw [itab_getD] at hRc
            have hcm := HVV.out.c (com.getD r []) (by
              have h0 : r < com.length := by have := HLC.out; omega
              have : com.getD r [] = com[r] := by simp [List.getD, h0]
              rw [this]; exact List.getElem_mem _)
            rw [hcm.1] at hc3
            have hBk : Below wr.heap.size wr (wr.alloc (.cells #[.int .i64 1, .int .i64 2] 3)) := (Below.refl _ _).alloc (Nat.le_refl _) _
            have hc3w := cell_of_below hBk (cell_of_below HB.out hc3)
            have bx1w := cell_of_below hBk bx1
            have CKp := Lib.hid (fun (wx : World) (hx : RowAt wx A3 (ints (com.getD r []))) => kept_at (com.getD r []) n (JM.poss p q) c3 A3 hcm.1 hcm.2 (JM.poss_le _ _) (by omega) wx hx)
            have HRc := Lib.hid ((hRc.below HB.out).below hBk)
            have HCM := Lib.hid hcm
            clear hcm hRc hc3
            subst e3
            generalize hpp : JM.poss p q = pp at *
            have HPP := Lib.hid hpp
            clear hpp
            have hrI : (r : Int) < (R : Int) := by omega
            go_wp2_with fail
            refine (CKp.out _ HRc.out).mono ?_
            rintro e w3 ⟨rfl, hBlk, hb3⟩
            have HBL3 := Lib.hid hBlk
            have HB3 := Lib.hid hb3
            have hb3s := hb3.size
            clear hBlk hb3
            have hk3 : (wr.alloc (.cells #[.int .i64 1, .int .i64 2] 3)).heap.size = wr.heap.size + 1 := by simp
            rw [hk3] at HBL3 HB3 hb3s
            clear hk3
            obtain ⟨cm, hcmd⟩ : ∃ cm, JM.keep (com.getD r []) pp = cm := ⟨_, rfl⟩
            have cmL : cm.length = n := by rw [← hcmd, JM.keep_length]; exact HCM.out.1
            have cm7 : ∀ x ∈ cm, x ≤ 7 := by rw [← hcmd]; exact JM.keep_le HCM.out.2
            rw [hcmd] at HBL3
            have hW3 : Below w3.heap.size w3 (w3.alloc (.cells #[.int .i64 1, .int .i64 2] 3)) := (Below.refl _ _).alloc (Nat.le_refl _) _
            have HRM := Lib.hid ((RowAt.blk HBL3.out).below hW3)
            have HRP := Lib.hid (((HRow.out.below hBk).below (HB3.out.mono (by simp))).below hW3)
            have H12b := Lib.hid (cell12 w3)
            have CM := Lib.hid (fun (x : Nat) (hx : x ≤ 7) (wx : World) (hw : RowAt wx (some ⟨wr.heap.size + 1, 0, none⟩) (ints cm)) => count_at cm n x n (some ⟨wr.heap.size + 1, 0, none⟩) cmL cm7 hx (by omega) wx hw)
            have CP := Lib.hid (fun (x : Nat) (hx : x ≤ 7) (wx : World) (hw : RowAt wx A2 (ints p)) => count_at p n x c2 A2 HPl.out (fun x hx => Nat.le_trans (HP3.out x hx) (by omega)) hx (by omega) wx hw)
            have HCD := Lib.hid hcmd
            have hmb : ∀ x, JM.cnt cm x ≤ 1000 := fun x => by have : JM.cnt cm x ≤ cm.length := List.countP_le_length; omega
            have hpb : ∀ x, JM.cnt p x ≤ 1000 := fun x => by have : JM.cnt p x ≤ p.length := List.countP_le_length; have := HPl.out; omega
            have HMB := Lib.hid hmb
            have HPB := Lib.hid hpb
            have HDN := Lib.hid (fun x => show JM.nextC p cm q x = ((decide (q ≤ JM.cnt cm (x ||| 4)) && decide (0 < JM.cnt cm x)) || (decide (q ≤ JM.cnt cm 4) && decide (0 < JM.cnt p x))) from rfl)
            have hbw : Below W1.heap.size W1 (w3.alloc (.cells #[.int .i64 1, .int .i64 2] 3)) := ((HB.out.trans (hBk.mono HB.out.size)).trans (HB3.out.mono (by have := HB.out.size; omega))).trans (hW3.mono (by have := HB.out.size; omega))
            have HBW := Lib.hid hbw
            clear hcmd cmL cm7 hW3 hmb hpb hbw hb1 hb2 hv3 HBQ CB CKp HRc hc3w bx1w
            obtain ⟨W3, hW3e⟩ : ∃ W3, w3.alloc (.cells #[.int .i64 1, .int .i64 2] 3) = W3 := ⟨_, rfl⟩
            rw [hW3e] at HRM HRP H12b HBW
            go_wp2_with fail
            go_loop [6, 12, 65] (fun v6 v12 i => ∃ k : Nat, k ≤ 2 ∧ i = .int .i64 k ∧ v6 = .int .i64 (vK eE (decide (q ≤ JM.cnt cm 1)) eI (decide (q ≤ JM.cnt cm 2)) k : Nat) ∧ v12 = .int .i64 (vK false (JM.nextC p cm q 1) false (JM.nextC p cm q 2) k : Nat)) (fun _ _ i => 2 - (intOf i).toNat)
            case atStart => exact ⟨0, by omega, rfl, by simp [vK], by simp [vK, code2]⟩
            case round =>
              have HW3 := Lib.hid hW3e
              clear hW3e
              obtain ⟨k, hk, rfl, rfl, rfl⟩ := hrel
              by_cases hlt3 : k < 2
              · have hcell := H12b.out k hlt3
                have CMx := Lib.hid (CM.out (k + 1) (by omega))
                have CMx4 := Lib.hid (CM.out ((k + 1) ||| 4) (by have : k = 0 ∨ k = 1 := by omega
                                                                 rcases this with rfl | rfl <;> decide))
                have CM4 := Lib.hid (CM.out 4 (by omega))
                have CPx := Lib.hid (CP.out (k + 1) (by omega))
                have yD := vK_yes eE (decide (q ≤ JM.cnt cm 1)) eI (decide (q ≤ JM.cnt cm 2)) k hlt3
                have nD := vK_no eE (decide (q ≤ JM.cnt cm 1)) eI (decide (q ≤ JM.cnt cm 2)) k hlt3
                have yN := vK_yes false (JM.nextC p cm q 1) false (JM.nextC p cm q 2) k hlt3
                have nN := vK_no false (JM.nextC p cm q 1) false (JM.nextC p cm q 2) k hlt3
                have i1 : (if k = 0 then decide (q ≤ JM.cnt cm 1) else decide (q ≤ JM.cnt cm 2)) = decide (q ≤ JM.cnt cm (k + 1)) := by
                  have : k = 0 ∨ k = 1 := by omega
                  rcases this with rfl | rfl <;> rfl
                have i2 : (if k = 0 then JM.nextC p cm q 1 else JM.nextC p cm q 2) = JM.nextC p cm q (k + 1) := by
                  have : k = 0 ∨ k = 1 := by omega
                  rcases this with rfl | rfl <;> rfl
                have ho4 : Go.bits .or .i64 ((k + 1 : Nat) : Int) 4 = (((k + 1) ||| 4 : Nat) : Int) := or4 (by omega)
                rw [i1] at yD nD
                rw [i2, HDN.out] at yN nN
                have bA := HMB.out ((k + 1) ||| 4)
                have bB := HMB.out (k + 1)
                have bC := HMB.out 4
                have bE := HPB.out (k + 1)
                clear i1 i2
                obtain ⟨d1, hd1⟩ : ∃ v, vK eE (decide (q ≤ JM.cnt cm 1)) eI (decide (q ≤ JM.cnt cm 2)) k = v := ⟨_, rfl⟩
                obtain ⟨d2, hd2⟩ : ∃ v, vK eE (decide (q ≤ JM.cnt cm 1)) eI (decide (q ≤ JM.cnt cm 2)) (k + 1) = v := ⟨_, rfl⟩
                obtain ⟨e1, he1⟩ : ∃ v, vK false (JM.nextC p cm q 1) false (JM.nextC p cm q 2) k = v := ⟨_, rfl⟩
                obtain ⟨e2, he2⟩ : ∃ v, vK false (JM.nextC p cm q 1) false (JM.nextC p cm q 2) (k + 1) = v := ⟨_, rfl⟩
                rw [hd1, hd2] at yD nD
                rw [he1, he2] at yN nN
                rw [hd1, he1]
                have HD2 := Lib.hid hd2
                have HE2 := Lib.hid he2
                clear hd1 hd2 he1 he2
                obtain ⟨x, hx⟩ : ∃ x, k + 1 = x := ⟨_, rfl⟩
                rw [hx] at hcell CMx CMx4 CPx yD nD yN nN bA bB bE ho4
                clear hx
                obtain ⟨x4, hx4⟩ : ∃ x4, x ||| 4 = x4 := ⟨_, rfl⟩
                rw [hx4] at CMx4 yN nN bA ho4
                clear hx4
                generalize JM.cnt cm x = mx at *
                generalize JM.cnt cm x4 = mx4 at *
                generalize JM.cnt p x = nx at *
                obtain ⟨m4, hm4⟩ : ∃ m, JM.cnt cm 4 = m := ⟨_, rfl⟩
                rw [hm4] at CM4 yN nN bC
                clear hm4
                have YD := Lib.hid yD
                have ND := Lib.hid nD
                have YN := Lib.hid yN
                have NN := Lib.hid nN
                clear yD nD yN nN
                go_wp2_with fail
                refine (CMx.out _ HRM.out).mono ?_
                rintro e w' ⟨rfl, rfl⟩
                go_upto_if 73 with (fail)
                go_cut [6] (fun v6 wx => v6 = .int .i64 (d2 : Nat) ∧ wx = W3)
                case first =>
                  by_cases hq1 : q ≤ mx
                  · have ho := YD.out (by simpa using hq1)
                    go_wp2
                    go_meet
                    exact ⟨rfl, rfl⟩
                  · have ho := Lib.hid (ND.out (by simpa using hq1))
                    go_wp2
                    go_meet
                    exact ⟨by rw [ho.out], rfl⟩
                case rest =>
                  obtain ⟨rfl, rfl⟩ := hcut
                  obtain ⟨wA, hwA⟩ : ∃ wx : World, wx = wc := ⟨_, rfl⟩
                  subst hwA
                  go_upto_region 25 with (fail)
                  go_cut [15] (fun v15 wx => v15 = .bool (decide (q ≤ mx4) && decide (0 < mx)) ∧ wx = wA)
                  case first =>
                    by_cases hA : q ≤ mx4
                    · have hAd : (decide (q ≤ mx4) && decide (0 < mx)) = decide ((0 : Int) < (mx : Int)) := by simp [hA]
                      have HAd := Lib.hid hAd
                      clear hAd
                      go_wp2_with fail
                      refine (CMx4.out _ HRM.out).mono ?_
                      rintro e w' ⟨rfl, rfl⟩
                      go_wp2_with fail
                      refine (CMx.out _ HRM.out).mono ?_
                      rintro e w' ⟨rfl, rfl⟩
                      go_wp2
                      go_meet
                      exact ⟨by rw [HAd.out]; simp, rfl⟩
                    · have hAd : (decide (q ≤ mx4) && decide (0 < mx)) = false := by simp [hA]
                      have HAd := Lib.hid hAd
                      clear hAd
                      go_wp2_with fail
                      refine (CMx4.out _ HRM.out).mono ?_
                      rintro e w' ⟨rfl, rfl⟩
                      go_wp2
                      go_meet
                      exact ⟨by rw [HAd.out], rfl⟩
                  case rest =>
                    obtain ⟨rfl, rfl⟩ := hcut
                    obtain ⟨wB, hwB⟩ : ∃ wx : World, wx = wc := ⟨_, rfl⟩
                    subst hwB
                    obtain ⟨aB, hAB⟩ : ∃ b, (decide (q ≤ mx4) && decide (0 < mx)) = b := ⟨_, rfl⟩
                    rw [hAB] at YN NN ⊢
                    clear hAB
                    go_upto_region 26 with (fail)
                    go_cut [16] (fun v16 wx => v16 = .bool (decide (q ≤ m4) && decide (0 < nx)) ∧ wx = wB)
                    case first =>
                      by_cases hA : q ≤ m4
                      · have hAd : (decide (q ≤ m4) && decide (0 < nx)) = decide ((0 : Int) < (nx : Int)) := by simp [hA]
                        have HAd := Lib.hid hAd
                        clear hAd
                        go_wp2_with fail
                        refine (CM4.out _ HRM.out).mono ?_
                        rintro e w' ⟨rfl, rfl⟩
                        go_wp2_with fail
                        refine (CPx.out _ HRP.out).mono ?_
                        rintro e w' ⟨rfl, rfl⟩
                        go_wp2
                        go_meet
                        exact ⟨by rw [HAd.out]; simp, rfl⟩
                      · have hAd : (decide (q ≤ m4) && decide (0 < nx)) = false := by simp [hA]
                        have HAd := Lib.hid hAd
                        clear hAd
                        go_wp2_with fail
                        refine (CM4.out _ HRM.out).mono ?_
                        rintro e w' ⟨rfl, rfl⟩
                        go_wp2
                        go_meet
                        exact ⟨by rw [HAd.out], rfl⟩
                    case rest =>
                      obtain ⟨rfl, rfl⟩ := hcut
                      obtain ⟨wC, hwC⟩ : ∃ wx : World, wx = wc := ⟨_, rfl⟩
                      subst hwC
                      obtain ⟨bB', hBB⟩ : ∃ b, (decide (q ≤ m4) && decide (0 < nx)) = b := ⟨_, rfl⟩
                      rw [hBB] at YN NN ⊢
                      clear hBB
                      cases aB with
                      | true =>
                        have ho := YN.out rfl
                        go_wp2
                        go_round
                        case rel => exact ⟨k + 1, by omega, by go_num, by rw [HD2.out], by rw [HE2.out]⟩
                        case measure => simp [intOf]; omega
                      | false =>
                        cases bB' with
                        | true =>
                          have ho := YN.out rfl
                          go_wp2
                          go_round
                          case rel => exact ⟨k + 1, by omega, by go_num, by rw [HD2.out], by rw [HE2.out]⟩
                          case measure => simp [intOf]; omega
                        | false =>
                          have ho := Lib.hid (NN.out rfl)
                          go_wp2
                          go_round
                          case rel => exact ⟨k + 1, by omega, by go_num, by rw [HD2.out], by rw [HE2.out, ho.out]⟩
                          case measure => simp [intOf]; omega
              · obtain rfl : k = 2 := by omega
                rw [vK_end, vK_end, Bool.false_or, Bool.false_or, ← nxt_code]
                have hcr : com.drop r = com.getD r [] :: com.drop (r + 1) := by
                  have h0 : r < com.length := by have := HLC.out; omega
                  rw [List.drop_eq_getElem_cons h0]
                  simp [List.getD, h0]
                have hdec := dec_step q p (pre.drop (r + 1)) (com.getD r []) (com.drop (r + 1)) cm (by rw [← HCD.out, ← HPP.out])
                rw [← hcr] at hdec
                have bxA := cell_of_below HBW.out (HBX.out.cell 0 rfl)
                have hnx7 : JM.nxt p cm q ≤ 7 := Nat.le_trans (JM.nxt_le _ _ _) (by omega)
                have hr1I : IntKind.i64.wrap ((r : Int) + 1) = (r : Int) + 1 := by rw [IntKind.wrap_i64]; omega
                by_cases hlast : r + 1 < R
                · have hpr : pre.drop (r + 1) = pre.getD (r + 1) [] :: pre.drop (r + 1 + 1) := by
                    have h0 : r + 1 < pre.length := by have := HL.out; omega
                    rw [List.drop_eq_getElem_cons h0]
                    simp [List.getD, h0]
                  rw [hpr] at hdec
                  have hdd : dd = ((eE || decide (q ≤ JM.cnt cm 1)) || (JM.dec q (JM.keep (pre.getD (r + 1) []) (JM.nxt p cm q)) (pre.drop (r + 1 + 1)) (com.drop (r + 1))).1, (eI || decide (q ≤ JM.cnt cm 2)) || (JM.dec q (JM.keep (pre.getD (r + 1) []) (JM.nxt p cm q)) (pre.drop (r + 1 + 1)) (com.drop (r + 1))).2) := by
                    have h := HD.out
                    rw [hpr, hdec] at h
                    rw [h]
                    simp [Bool.or_assoc]
                  have HDD := Lib.hid hdd
                  obtain ⟨b4, off4, A4, c4, e4, hc4, hR4⟩ := HT1.out.p (r + 1) (by rw [itab_length, HL.out]; exact hlast)
                  injection e4 with e4
                  injection e4 with e4 e5
                  subst e4 e5
                  rw [itab_getD, ints_length] at hc4
                  rw [itab_getD] at hR4
                  have hpm := HVV.out.p (pre.getD (r + 1) []) (by
                    have h0 : r + 1 < pre.length := by rw [HL.out]; exact hlast
                    have : pre.getD (r + 1) [] = pre[r + 1] := by simp [List.getD, h0]
                    rw [this]; exact List.getElem_mem _)
                  rw [hpm.1] at hc4
                  have hc4w := cell_of_below HBW.out hc4
                  have HR4 := Lib.hid (hR4.below HBW.out)
                  have HPM := Lib.hid hpm
                  have CK4 := Lib.hid (fun (wx : World) (hx : RowAt wx A4 (ints (pre.getD (r + 1) []))) => kept_at (pre.getD (r + 1) []) n (JM.nxt p cm q) c4 A4 hpm.1 (fun x hx => Nat.le_trans (hpm.2 x hx) (by omega)) hnx7 (by omega) wx hx)
                  clear hdec hcr hpr hdd hc4 hR4 hpm hnx7
                  obtain ⟨nx, hnx⟩ : ∃ v, JM.nxt p cm q = v := ⟨_, rfl⟩
                  rw [hnx] at CK4 HDD ⊢
                  clear hnx
                  obtain ⟨dE, hdE⟩ : ∃ v, (eE || decide (q ≤ JM.cnt cm 1)) = v := ⟨_, rfl⟩
                  obtain ⟨dI, hdI⟩ : ∃ v, (eI || decide (q ≤ JM.cnt cm 2)) = v := ⟨_, rfl⟩
                  rw [hdE, hdI] at HDD ⊢
                  clear hdE hdI
                  obtain ⟨s, hs⟩ : ∃ s, r + 1 = s := ⟨_, rfl⟩
                  have hsI : (r : Int) + 1 = (s : Int) := by omega
                  rw [hs] at hc4w HR4 HPM CK4 HDD
                  have HS := Lib.hid hs
                  have s1 : (s : Int) < (R : Int) := by omega
                  have s2 : s < R := by omega
                  clear hs
                  go_wp2_with fail
                  refine (CK4.out _ HR4.out).mono ?_
                  rintro e w5 ⟨rfl, hBlk5, hb5⟩
                  have hw3s := HBW.out.size
                  have HR5 := Lib.hid (RowAt.blk hBlk5)
                  have HB5 := Lib.hid (HBW.out.trans (hb5.mono hw3s))
                  clear hBlk5 hb5
                  go_wp2
                  go_roundw
                  case rel => exact ⟨s, JM.keep (pre.getD s []) nx, _, _, dE, dI, by omega, by go_num, rfl, rfl, HR5.out, (by rw [JM.keep_length]; exact HPM.out.1), JM.keep_le HPM.out.2, HB5.out, HDD.out⟩
                  case measure => simp [intOf]; omega
                · have hpr : pre.drop (r + 1) = [] := List.drop_of_length_le (by rw [HL.out]; omega)
                  have hpr2 : pre.drop (r + 1 + 1) = [] := List.drop_of_length_le (by rw [HL.out]; omega)
                  rw [hpr] at hdec
                  have hdd : dd = ((eE || decide (q ≤ JM.cnt cm 1)) || (JM.dec q p (pre.drop (r + 1 + 1)) (com.drop (r + 1))).1, (eI || decide (q ≤ JM.cnt cm 2)) || (JM.dec q p (pre.drop (r + 1 + 1)) (com.drop (r + 1))).2) := by
                    have h := HD.out
                    rw [hpr, hdec] at h
                    rw [h, hpr2]
                    simp [Bool.or_assoc]
                  have HDD := Lib.hid hdd
                  have HR5 := Lib.hid HRP.out
                  have HB5 := Lib.hid HBW.out
                  clear hdec hcr hpr hpr2 hdd hnx7
                  obtain ⟨dE, hdE⟩ : ∃ v, (eE || decide (q ≤ JM.cnt cm 1)) = v := ⟨_, rfl⟩
                  obtain ⟨dI, hdI⟩ : ∃ v, (eI || decide (q ≤ JM.cnt cm 2)) = v := ⟨_, rfl⟩
                  rw [hdE, hdI] at HDD ⊢
                  clear hdE hdI
                  obtain ⟨nx, hnx⟩ : ∃ v, JM.nxt p cm q = v := ⟨_, rfl⟩
                  rw [hnx]
                  clear hnx
                  obtain ⟨s, hs⟩ : ∃ s, r + 1 = s := ⟨_, rfl⟩
                  have hsI : (r : Int) + 1 = (s : Int) := by omega
                  rw [hs] at HDD
                  have s1 : ¬ (s : Int) < (R : Int) := by omega
                  have s2 : s ≤ R := by omega
                  have s3 : r < s := by omega
                  clear hs
                  go_wp2
                  go_roundw
                  case rel => exact ⟨s, p, _, _, dE, dI, by omega, by go_num, rfl, rfl, HR5.out, HPl.out, HP3.out, HB5.out, HDD.out⟩
                  case measure => simp [intOf]; omega
    · obtain rfl : r = R := by omega
      have hfin : dd = (eE, eI) := by
        rw [HD.out, List.drop_of_length_le (l := com) (by have := HLC.out; omega)]
        simp [JM.dec]
      subst hfin
      have e1 := code2_and1 eE eI
      have e2 := code2_and2 eE eI
      have HE := Lib.hid (HBL.out.trans (HB.out.mono (by omega)))
      go_wp2
      go_ret2
      exact ⟨rfl, HE.out⟩

end Go.Proofs.Ytmoemalkojckaaa.J
