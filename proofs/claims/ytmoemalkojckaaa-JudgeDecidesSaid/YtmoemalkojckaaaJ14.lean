import Derived.Test.YtmoemalkojckaaaProg
import Derived.Below
import Derived.Deep.Draws
import Derived.Deep.AppendLies
import Derived.OwnWalk
import Derived.Laws.MakeOwn
import Derived.Laws.OwnMore
import Derived.Deep.OwnRows
import Derived.Tactics
import Derived.Laws.Slices
import Derived.WalkKit
import Derived.KernelRfl
import Derived.RowKit3
import Derived.Deep.LoopGhost
import Derived.Deep.QuietTactic
import Derived.BigQuiet
import Derived.Deep.DeepCutAuto
import Derived.Deep.CutBlock
import Derived.Deep.RegionHeld3
import Derived.Laws.Rows
import Derived.Laws.BitsLemmas
import Derived.RowKit
import Derived.Lib.Hide
import Derived.WalkLawsBesides
import Derived.WalkSpells
import Derived.Deep.DeepFit
import Derived.Laws.ShiftsVar
import Derived.Laws.ShiftsVarLaws
import Derived.Test.YtmoemalkojckaaaJ13
namespace Go.Proofs.Ytmoemalkojckaaa.J
open Go.RowKit
set_option linter.unusedVariables false
set_option linter.unusedSimpArgs false

/-- Does member m hold two choices in one of the first r rounds? -/
def cB (pre com : List (List Nat)) (r m : Nat) : Bool := JM.conf (pre.take r) (com.take r) m
def entB (pre com : List (List Nat)) (r m : Nat) : Bool := JM.two ((pre.getD r []).getD m 0) || JM.two ((com.getD r []).getD m 0)
theorem cB_succ (pre com : List (List Nat)) (r m : Nat) (h : pre.length = com.length) (hr : r < pre.length) : cB pre com (r + 1) m = (cB pre com r m || entB pre com r m) := by
  unfold cB JM.conf entB
  have hc : r < com.length := by omega
  rw [List.take_succ_eq_append_getElem hr, List.take_succ_eq_append_getElem hc, List.any_append, List.any_append]
  have e1 : pre[r] = pre.getD r [] := by simp [List.getD, hr]
  have e2 : com[r] = com.getD r [] := by simp [List.getD, hc]
  rw [e1, e2]
  simp only [List.any_cons, List.any_nil, Bool.or_false]
  cases (pre.take r).any fun l => JM.two (l.getD m 0) <;> cases (com.take r).any fun l => JM.two (l.getD m 0) <;> cases JM.two ((pre.getD r []).getD m 0) <;> cases JM.two ((com.getD r []).getD m 0) <;> rfl
theorem cB_end (pre com : List (List Nat)) (m : Nat) (h : pre.length = com.length) : cB pre com pre.length m = JM.conf pre com m := by
  unfold cB
  rw [List.take_of_length_le (Nat.le_refl _), List.take_of_length_le (by omega)]
/-- The mask while round r is looked at, up to member i. -/
def mB (pre com : List (List Nat)) (r i j : Nat) : Bool := cB pre com r j || (decide (j < i) && entB pre com r j)
theorem mB_zero (pre com : List (List Nat)) (r : Nat) : maskOf 7 (mB pre com r 0) = maskOf 7 (cB pre com r) := maskOf_congr _ _ _ fun j _ => by simp [mB]
theorem mB_no (pre com : List (List Nat)) (r i : Nat) (h : entB pre com r i = false) : maskOf 7 (mB pre com r (i + 1)) = maskOf 7 (mB pre com r i) := maskOf_congr _ _ _ fun j _ => by
  unfold mB
  by_cases e : j = i
  · subst e; simp [h]
  · have : (decide (j < i + 1)) = decide (j < i) := by simp only [decide_eq_decide]; omega
    rw [this]
theorem mB_yes (pre com : List (List Nat)) (r i : Nat) (hi : i < 7) (h : entB pre com r i = true) : Go.bits .or .i64 (maskOf 7 (mB pre com r i) : Int) ((2 ^ i : Nat) : Int) = (maskOf 7 (mB pre com r (i + 1)) : Int) := by
  rw [maskOf_or 7 i _ (by omega) hi]
  congr 1
  refine maskOf_congr _ _ _ fun j _ => ?_
  unfold mB
  by_cases e : j = i
  · subst e; simp [h]
  · have h1 : (decide (j < i + 1)) = decide (j < i) := by simp only [decide_eq_decide]; omega
    have h2 : (j == i) = false := by rw [beq_eq_false_iff_ne]; exact e
    rw [h1, h2, Bool.or_false]
theorem mB_end (pre com : List (List Nat)) (r n : Nat) (h : pre.length = com.length) (hr : r < pre.length) (hn : ∀ j, n ≤ j → entB pre com r j = false) : maskOf 7 (mB pre com r n) = maskOf 7 (cB pre com (r + 1)) := maskOf_congr _ _ _ fun j _ => by
  unfold mB
  rw [cB_succ pre com r j h hr]
  by_cases e : j < n
  · simp [e]
  · simp [e, hn j (by omega)]

theorem getD_out {l : List Nat} {j : Nat} (h : l.length ≤ j) : l.getD j 0 = 0 := by simp [List.getD, h]
theorem wrap_pow (j : Nat) (h : j < 20) : wrap64 ((2 : Int) ^ j) = ((2 ^ j : Nat) : Int) := by
  have h2 : 2 ^ j < 2 ^ 20 := Nat.pow_lt_pow_right (by omega) h
  have e : ((2 : Int) ^ j) = ((2 ^ j : Nat) : Int) := by simp
  rw [e]
  generalize (2 : Nat) ^ j = z at h2
  have : (1048576 : Nat) = 2 ^ 20 := by decide
  rw [← this] at h2
  unfold wrap64
  omega

theorem popc_le1 (x : Nat) (h : x ≤ 7) : JM.two x = decide ((1 : Int) < (popc x : Int)) := by
  rw [popc_two x h]
  simp only [decide_eq_decide]
  omega

set_option maxHeartbeats 3200000 in
set_option maxRecDepth 100000 in
theorem conflicted_calls (pre com : List (List Nat)) (n : Nat) (hv : JM.Valid n pre com) (A0 A1 : Option Addr) (c0 c1 : Nat) (w : World) (ht : Tab w A0 A1 (itab pre) (itab com)) (hvB : validB (itab pre) (itab com) = true) :
    Calls Try.prog 15 #[.agg #[.slice A0 pre.length c0, .slice A1 com.length c1]] w fun e w' => e = .returned (.int .i64 (maskOf 7 (JM.conf pre com) : Nat)) ∧ Below w.heap.size w w' := by
  have hbel : Below w.heap.size w (w.alloc (.cells #[.slice A0 pre.length c0, .slice A1 com.length c1] 24)) := (Below.refl _ _).alloc (Nat.le_refl _) _
  have HV := Lib.hid (fun wx (hx : Tab wx A0 A1 (itab pre) (itab com)) => valid_calls (itab pre) (itab com) A0 A1 c0 c1 wx hx)
  have hpos := hv.pos
  have hR3 := hv.le
  have hlen := hv.len
  have hn1 := hv.n1
  have hn7 := hv.n7
  have hbox := Blk.new w #[.slice A0 pre.length c0, .slice A1 com.length c1] 24
  have hrowP : ∀ r, r < pre.length → (pre.getD r []).length = n ∧ ∀ x ∈ pre.getD r [], x ≤ 3 := fun r hr => hv.p _ (by
    have : pre.getD r [] = pre[r] := by simp [List.getD, hr]
    rw [this]; exact List.getElem_mem _)
  have hrowC : ∀ r, r < pre.length → (com.getD r []).length = n ∧ ∀ x ∈ com.getD r [], x ≤ 7 := fun r hr => hv.c _ (by
    have hr' : r < com.length := by omega
    have : com.getD r [] = com[r] := by simp [List.getD, hr']
    rw [this]; exact List.getElem_mem _)
  have hend := fun m => cB_end pre com m hlen
  have hz : maskOf 7 (cB pre com 0) = 0 := (maskOf_congr 7 _ (fun _ => false) (fun j _ => by simp [cB, JM.conf])).trans (by decide)
  have HZ := Lib.hid hz
  clear hz
  obtain ⟨R, hR⟩ : ∃ R, pre.length = R := ⟨_, rfl⟩
  rw [← hlen, hR] at hbel hbox ⊢
  rw [hR] at hpos hR3 hlen hrowP hrowC hend
  have HL := Lib.hid hR
  have HLC := Lib.hid hlen
  have HRP := Lib.hid hrowP
  have HRC := Lib.hid hrowC
  have HEND := Lib.hid hend
  rw [itab_length, itab_length, hR, ← hlen, hvB] at HV
  obtain ⟨W1, hW1⟩ : ∃ W1, w.alloc (.cells #[.slice A0 R c0, .slice A1 R c1] 24) = W1 := ⟨_, rfl⟩
  rw [hW1] at hbel hbox
  have HT1 := Lib.hid (ht.below hbel)
  have HBX := Lib.hid hbox
  have HBL := Lib.hid hbel
  have hbsz : W1.heap.size = w.heap.size + 1 := by rw [← hW1]; simp
  clear ht hvB hv hR hlen hrowP hrowC hend hbox hbel
  have ba0 := HBX.out.cell 0 rfl
  have ba1 := HBX.out.cell 1 rfl
  go_enter Try.func15, Try.ntmps15
  go_wp2_with fail
  clear hW1 ba0 ba1
  refine (HV.out _ HT1.out).mono ?_
  rintro e w2 ⟨rfl, hb2⟩
  have bx0 := cell_of_below hb2 (HBX.out.cell 0 rfl)
  have bx1 := cell_of_below hb2 (HBX.out.cell 1 rfl)
  have HB := Lib.hid hb2
  clear hb2
  go_wp2_with fail
  go_loop [3, 12] (fun v3 i => ∃ r : Nat, r ≤ R ∧ i = .int .i64 r ∧ v3 = .int .i64 (maskOf 7 (cB pre com r) : Nat)) (fun _ i => R - (intOf i).toNat)
  case atStart => exact ⟨0, by omega, rfl, by rw [HZ.out]; rfl⟩
  case round =>
    obtain ⟨r, hr, rfl, rfl⟩ := hrel
    by_cases hlt : r < R
    · have hrI : (r : Int) < (R : Int) := by omega
      have hdr : decide ((r : Int) < (R : Int)) = true := decide_eq_true hrI
      obtain ⟨bp, op, Ap, cp, ep, hcp, hRp⟩ := HT1.out.p r (by rw [itab_length, HL.out]; exact hlt)
      obtain ⟨bc, oc, Ac, cc, ec, hcc, hRc⟩ := HT1.out.c r (by rw [itab_length]; have := HLC.out; omega)
      rw [itab_getD, ints_length, (HRP.out r hlt).1] at hcp
      rw [itab_getD, ints_length, (HRC.out r hlt).1] at hcc
      rw [itab_getD] at hRp hRc
      have hcp2 := cell_of_below HB.out hcp
      have hcc2 := cell_of_below HB.out hcc
      have hRp2 := hRp.below HB.out
      have hRc2 := hRc.below HB.out
      have HP3 := Lib.hid (HRP.out r hlt)
      have HC7 := Lib.hid (HRC.out r hlt)
      have HME := Lib.hid (mB_end pre com r n (by rw [HL.out]; exact HLC.out) (by rw [HL.out]; exact hlt) (fun j hj => by
        unfold entB
        have e1 : (pre.getD r []).getD j 0 = 0 := getD_out (by rw [HP3.out.1]; exact hj)
        have e2 : (com.getD r []).getD j 0 = 0 := getD_out (by rw [HC7.out.1]; exact hj)
        rw [e1, e2]; rfl))
      have HMZ := Lib.hid (mB_zero pre com r)
      clear hcp hcc hRp hRc
      subst ep ec
      go_wp2_with fail
      go_loop [3, 21] (fun v3 i => ∃ j : Nat, j ≤ n ∧ i = .int .i64 j ∧ v3 = .int .i64 (maskOf 7 (mB pre com r j) : Nat)) (fun _ i => n - (intOf i).toNat)
      case atStart => exact ⟨0, by omega, rfl, by rw [HMZ.out]⟩
      case round =>
        obtain ⟨j, hj, rfl, rfl⟩ := hrel
        by_cases hlt2 : j < n
        · obtain ⟨b5, o5, e5, hc5⟩ := hRp2.get (i := j) (by rw [HP3.out.1]; exact hlt2)
          obtain ⟨b6, o6, e6, hc6⟩ := hRc2.get (i := j) (by rw [HC7.out.1]; exact hlt2)
          have x3 := getD_le HP3.out.2 j
          have y7 := getD_le HC7.out.2 j
          have hyes := mB_yes pre com r j (by omega)
          have hno := mB_no pre com r j
          have hent : entB pre com r j = (JM.two ((pre.getD r []).getD j 0) || JM.two ((com.getD r []).getD j 0)) := rfl
          rw [hent] at hyes hno
          clear hent
          obtain ⟨x, hx⟩ : ∃ x, (pre.getD r []).getD j 0 = x := ⟨_, rfl⟩
          obtain ⟨y, hy⟩ : ∃ y, (com.getD r []).getD j 0 = y := ⟨_, rfl⟩
          rw [hx] at hc5 x3 hyes hno
          rw [hy] at hc6 y7 hyes hno
          rw [popc_le1 x (by omega), popc_le1 y y7] at hyes hno
          clear hx hy
          obtain ⟨m, hm⟩ : ∃ m, maskOf 7 (mB pre com r j) = m := ⟨_, rfl⟩
          obtain ⟨m2, hm2⟩ : ∃ m, maskOf 7 (mB pre com r (j + 1)) = m := ⟨_, rfl⟩
          rw [hm, hm2] at hyes hno
          rw [hm]
          have HM2 := Lib.hid hm2
          clear hm hm2
          have ux := u64_small x (by omega)
          have uy := u64_small y (by omega)
          have HX := Lib.hid (fun wx => popc_calls33 x (by omega) wx)
          have HY := Lib.hid (fun wx => popc_calls33 y (by omega) wx)
          obtain ⟨px, hpx⟩ : ∃ p, popc x = p := ⟨_, rfl⟩
          obtain ⟨py, hpy⟩ : ∃ p, popc y = p := ⟨_, rfl⟩
          rw [hpx] at HX hyes hno
          rw [hpy] at HY hyes hno
          clear hpx hpy
          have HYES := Lib.hid hyes
          have HNO := Lib.hid hno
          clear hyes hno
          subst e5 e6
          have hj7 : j < 7 := by omega
          have hw := wrap_pow j (by omega)
          have cont : ∀ b : Bool, b = (decide ((1 : Int) < (px : Int)) || decide ((1 : Int) < (py : Int))) → (if b then Go.bits .or .i64 (m : Int) (wrap64 ((2 : Int) ^ j)) else (m : Int)) = (m2 : Int) := by
            intro b hb
            cases b with
            | true => rw [if_pos rfl, hw]; exact HYES.out hb.symm
            | false => rw [if_neg (by simp), HNO.out hb.symm]
          have CONT := Lib.hid cont
          clear cont hw
          by_cases h1 : (1 : Int) < (px : Int)
          · have ho := CONT.out true (by simp [h1])
            rw [if_pos rfl] at ho
            go_wp2_with fail
            refine (HX.out _).mono ?_
            rintro e w' ⟨rfl, rfl⟩
            go_wp2
            go_round
            case rel => exact ⟨j + 1, by omega, by go_num, by rw [HM2.out]⟩
            case measure => simp [intOf]; omega
          · by_cases h2 : (1 : Int) < (py : Int)
            · have ho := CONT.out true (by simp [h2])
              rw [if_pos rfl] at ho
              go_wp2_with fail
              refine (HX.out _).mono ?_
              rintro e w' ⟨rfl, rfl⟩
              go_wp2_with fail
              refine (HY.out _).mono ?_
              rintro e w' ⟨rfl, rfl⟩
              go_wp2
              go_round
              case rel => exact ⟨j + 1, by omega, by go_num, by rw [HM2.out]⟩
              case measure => simp [intOf]; omega
            · have ho := CONT.out false (by simp; omega)
              rw [if_neg (by simp)] at ho
              have HO := Lib.hid ho
              clear ho
              go_wp2_with fail
              refine (HX.out _).mono ?_
              rintro e w' ⟨rfl, rfl⟩
              go_wp2_with fail
              refine (HY.out _).mono ?_
              rintro e w' ⟨rfl, rfl⟩
              go_wp2
              go_round
              case rel => exact ⟨j + 1, by omega, by go_num, by rw [HM2.out, HO.out]⟩
              case measure => simp [intOf]; omega
        · obtain rfl : j = n := by omega
          go_wp2
          go_round
          case rel => exact ⟨r + 1, by omega, by go_num, by rw [HME.out]⟩
          case measure => simp [intOf]; omega
    · obtain rfl : r = R := by omega
      have HE := Lib.hid (HBL.out.trans (HB.out.mono (by omega)))
      have hcg := Lib.hid (maskOf_congr 7 _ _ (fun j _ => HEND.out j))
      go_wp2
      go_ret
      exact ⟨ret_int (by rw [hcg.out]), HE.out⟩

end Go.Proofs.Ytmoemalkojckaaa.J
