import Derived.Test.YtmoemalkojckaaaProg
import Derived.Below
import Derived.Deep.Draws
import Derived.Deep.AppendLies
import Derived.OwnWalk
import Derived.Laws.MakeOwn
import Derived.Laws.OwnMore
import Derived.Deep.OwnRows
import Derived.Tactics
import Derived.Laws.Slices
import Derived.WalkKit
import Derived.KernelRfl
import Derived.RowKit3
import Derived.Deep.LoopGhost
import Derived.Deep.QuietTactic
import Derived.BigQuiet
import Derived.Deep.DeepCutAuto
import Derived.Deep.CutBlock
import Derived.Deep.RegionHeld3
import Derived.Laws.Rows
import Derived.Laws.BitsLemmas
import Derived.RowKit
import Derived.Lib.Hide
import Derived.WalkLawsBesides
import Derived.WalkSpells
import Derived.Deep.DeepFit
import Derived.Test.YtmoemalkojckaaaJ7
namespace Go.Proofs.Ytmoemalkojckaaa.J
open Go.RowKit
set_option linter.unusedVariables false
set_option linter.unusedSimpArgs false

theorem any3_take (l : List Nat) (k : Nat) (hk : k < l.length) : (l.take (k + 1)).any (· == 3) = ((l.take k).any (· == 3) || l.getD k 0 == 3) := by
  rw [List.take_succ_eq_append_getElem hk, List.any_append, getD_lt hk]
  simp

set_option maxHeartbeats 1600000 in
theorem both_calls (l : List Nat) (q cap : Nat) (A : Option Addr) (w : World) (h7 : ∀ x ∈ l, x ≤ 7) (hq : 1 ≤ q) (hq7 : q ≤ 1000) (hlen : l.length ≤ 1000) (hr : RowAt w A (ints l)) :
    Calls Try.prog 27 #[.slice A l.length cap, .int .i64 (q : Int)] w fun e w' => e = .returned (.bool (JM.bothQ l q)) ∧ w = w' := by
  have c3 := fun wx (hx : RowAt wx A (ints l)) => count_calls l 3 cap A wx h7 (by omega) hlen hx
  have c1 := fun wx (hx : RowAt wx A (ints l)) => count_calls l 1 cap A wx h7 (by omega) hlen hx
  have c2 := fun wx (hx : RowAt wx A (ints l)) => count_calls l 2 cap A wx h7 (by omega) hlen hx
  have hdef : JM.bothQ l q = (decide (q ≤ JM.cnt l 3) && decide (0 < JM.cnt l 1) && decide (0 < JM.cnt l 2) && (decide (1 < q) || l.any (· == 3))) := rfl
  have HD := Lib.hid hdef
  clear hdef
  have b3 : JM.cnt l 3 ≤ l.length := List.countP_le_length
  have b1 : JM.cnt l 1 ≤ l.length := List.countP_le_length
  have b2 : JM.cnt l 2 ≤ l.length := List.countP_le_length
  generalize JM.cnt l 3 = n3 at *
  generalize JM.cnt l 1 = n1 at *
  generalize JM.cnt l 2 = n2 at *
  obtain ⟨len, hl⟩ : ∃ len, l.length = len := ⟨_, rfl⟩
  rw [hl] at hlen b1 b2 b3 c1 c2 c3 ⊢
  have HL := Lib.hid hl
  have H1 := Lib.hid c1
  have H2 := Lib.hid c2
  have H3 := Lib.hid c3
  clear hl c1 c2 c3
  by_cases t3 : q ≤ n3
  · by_cases t1 : n1 = 0
    · have t1' : ((n1 : Int) == 0) = true := by rw [beq_iff_eq]; omega
      have hres : JM.bothQ l q = false := by rw [HD.out, t1]; simp
      have HR := Lib.hid hres
      clear hres t1
      go_enter Try.func27, Try.ntmps27
      go_wp2_with fail
      refine (H3.out _ hr).mono ?_
      rintro e w' ⟨rfl, rfl⟩
      go_wp2_with fail
      refine (H1.out _ hr).mono ?_
      rintro e w' ⟨rfl, rfl⟩
      go_wp2
      go_ret
      exact ⟨ret_bool HR.out.symm, rfl⟩
    · have t1' : ((n1 : Int) == 0) = false := by rw [beq_eq_false_iff_ne]; omega
      by_cases t2 : n2 = 0
      · have t2' : ((n2 : Int) == 0) = true := by rw [beq_iff_eq]; omega
        have hres : JM.bothQ l q = false := by rw [HD.out, t2]; simp
        have HR := Lib.hid hres
        clear hres t2
        go_enter Try.func27, Try.ntmps27
        go_wp2_with fail
        refine (H3.out _ hr).mono ?_
        rintro e w' ⟨rfl, rfl⟩
        go_wp2_with fail
        refine (H1.out _ hr).mono ?_
        rintro e w' ⟨rfl, rfl⟩
        go_wp2_with fail
        refine (H2.out _ hr).mono ?_
        rintro e w' ⟨rfl, rfl⟩
        go_wp2
        go_ret
        exact ⟨ret_bool HR.out.symm, rfl⟩
      · have t2' : ((n2 : Int) == 0) = false := by rw [beq_eq_false_iff_ne]; omega
        have hres : JM.bothQ l q = (decide (1 < q) || l.any (· == 3)) := by rw [HD.out]; simp [t3]; omega
        have HR := Lib.hid hres
        clear hres
        by_cases tq : 1 < q
        · go_enter Try.func27, Try.ntmps27
          go_wp2_with fail
          refine (H3.out _ hr).mono ?_
          rintro e w' ⟨rfl, rfl⟩
          go_wp2_with fail
          refine (H1.out _ hr).mono ?_
          rintro e w' ⟨rfl, rfl⟩
          go_wp2_with fail
          refine (H2.out _ hr).mono ?_
          rintro e w' ⟨rfl, rfl⟩
          go_wp2
          go_ret
          exact ⟨ret_bool (by rw [HR.out]; simp [tq]), rfl⟩
        · go_enter Try.func27, Try.ntmps27
          go_wp2_with fail
          refine (H3.out _ hr).mono ?_
          rintro e w' ⟨rfl, rfl⟩
          go_wp2_with fail
          refine (H1.out _ hr).mono ?_
          rintro e w' ⟨rfl, rfl⟩
          go_wp2_with fail
          refine (H2.out _ hr).mono ?_
          rintro e w' ⟨rfl, rfl⟩
          go_wp2_with fail
          go_loop [25] (fun i => ∃ k : Nat, k ≤ len ∧ i = .int .i64 k ∧ Hid ((l.take k).any (· == 3) = false)) (fun i => len - (intOf i).toNat)
          case atStart => exact ⟨0, by omega, rfl, rfl⟩
          case round =>
            obtain ⟨k, hk, rfl, hA⟩ := hrel
            by_cases hlt : k < len
            · obtain ⟨b, off, rfl, hcell⟩ := hr.get (i := k) (by rw [HL.out]; exact hlt)
              have HT := Lib.hid (any3_take l k (by rw [HL.out]; exact hlt))
              obtain ⟨x, hx⟩ : ∃ x, l.getD k 0 = x := ⟨_, rfl⟩
              rw [hx] at hcell
              have HX := Lib.hid hx
              clear hx
              by_cases h3 : x = 3
              · have h3' : ((x : Int) == 3) = true := by rw [beq_iff_eq]; omega
                have hres : l.any (· == 3) = true := by
                  rw [List.any_eq_true]
                  refine ⟨3, ?_, rfl⟩
                  have hk' : k < l.length := by rw [HL.out]; exact hlt
                  have : l[k] = 3 := by rw [getD_lt hk', HX.out]; exact h3
                  rw [← this]; exact List.getElem_mem _
                have HQ := Lib.hid hres
                clear hres h3
                go_wp2
                go_ret
                exact ⟨ret_bool (by rw [HR.out, HQ.out]; simp), rfl⟩
              · have h3' : ((x : Int) == 3) = false := by rw [beq_eq_false_iff_ne]; omega
                have hA2 : (l.take (k + 1)).any (· == 3) = false := by rw [HT.out, hA.out, HX.out]; simpa using h3
                have HA2 := Lib.hid hA2
                clear hA2 h3
                go_wp2
                go_round
                case rel => exact ⟨k + 1, by omega, by go_num, HA2.out⟩
                case measure => simp [intOf]; omega
            · obtain rfl : k = len := by omega
              have hA2 : l.any (· == 3) = false := by have := hA.out; rwa [List.take_of_length_le (by rw [HL.out]; omega)] at this
              have HA2 := Lib.hid hA2
              clear hA2
              go_wp2
              go_ret
              exact ⟨ret_bool (by rw [HR.out, HA2.out]; simp [tq]), rfl⟩
  · have hres : JM.bothQ l q = false := by rw [HD.out]; simp [t3]
    have HR := Lib.hid hres
    clear hres
    go_enter Try.func27, Try.ntmps27
    go_wp2_with fail
    refine (H3.out _ hr).mono ?_
    rintro e w' ⟨rfl, rfl⟩
    go_wp2
    go_ret
    exact ⟨ret_bool HR.out.symm, rfl⟩

/-! ### kept -/
def keepK (l : List Nat) (c k : Nat) : List Nat := (JM.keep l c).take k ++ List.replicate (l.length - k) 0
theorem keepK_set (l : List Nat) (c k : Nat) (hk : k < l.length) : (keepK l c k).set k (l.getD k 0 &&& c) = keepK l c (k + 1) := by
  unfold keepK
  have hl : (JM.keep l c).length = l.length := JM.keep_length l c
  rw [List.set_append_right _ _ (by rw [List.length_take, hl]; omega), List.length_take, hl, Nat.min_eq_left (by omega), Nat.sub_self, List.take_succ_eq_append_getElem (by rw [hl]; exact hk)]
  rw [show l.length - k = (l.length - (k + 1)) + 1 by omega, List.replicate_succ, List.set_cons_zero, List.append_assoc]
  congr 1
  simp [JM.keep, List.getD, hk]
theorem keepK_end (l : List Nat) (c : Nat) : keepK l c l.length = JM.keep l c := by
  unfold keepK
  rw [List.take_of_length_le (by rw [JM.keep_length]; exact Nat.le_refl _)]; simp

set_option maxHeartbeats 1600000 in
theorem kept_calls (l : List Nat) (c cap : Nat) (A : Option Addr) (w : World) (h7 : ∀ x ∈ l, x ≤ 7) (hc : c ≤ 7) (hlen : l.length ≤ 1000) (hr : RowAt w A (ints l)) :
    Calls Try.prog 28 #[.slice A l.length cap, .int .i64 (c : Int)] w fun e w' => e = .returned (slv l.length w.heap.size) ∧ Blk w' w.heap.size (nums (JM.keep l c)) 3 ∧ Below w.heap.size w w' := by
  have hmk := fun wx => Go.run_make_row' (P := Try.prog) 45 3 (.int .i64 0) 8 Try.underlying45 info3 rfl .i64 .i64 l.length (by omega) (by omega) wx
  rw [mk_nums] at hmk
  have hst : Blk (w.alloc (.cells (nums (List.replicate l.length 0)).toArray 3)) w.heap.size (nums (keepK l c 0)) 3 := by
    have := Blk.new w (nums (List.replicate l.length 0)).toArray 3
    rw [List.toList_toArray] at this
    simpa [keepK] using this
  have hend := keepK_end l c
  have hset := keepK_set l c
  obtain ⟨len, hl⟩ : ∃ len, l.length = len := ⟨_, rfl⟩
  rw [hl] at hlen hmk hend hset ⊢
  have HL := Lib.hid hl
  have HE := Lib.hid hend
  have HS := Lib.hid hset
  have HT := Lib.hid hst
  clear hl hend hset hst
  go_enter Try.func28, Try.ntmps28
  go_wp2_with fail
  go_loopw [13] (fun i wr => ∃ k : Nat, k ≤ len ∧ i = .int .i64 k ∧ Blk wr w.heap.size (nums (keepK l c k)) 3 ∧ Below w.heap.size w wr) (fun i _ => len - (intOf i).toNat)
  case atStart => exact ⟨0, by omega, rfl, by rw [← HL.out]; exact HT.out, (Below.refl _ _).alloc (Nat.le_refl _) _⟩
  case round =>
    obtain ⟨k, hk, rfl, hB, hb⟩ := hrel
    by_cases hlt : k < len
    · obtain ⟨b, off, rfl, hcell⟩ := (hr.below hb).get (i := k) (by rw [HL.out]; exact hlt)
      have hx7 := getD_le h7 k
      have hkl : k < (keepK l c k).length := by
        unfold keepK
        rw [List.length_append, List.length_take, JM.keep_length, List.length_replicate, HL.out]; omega
      have hold := hB.cell k (nums_get _ k hkl)
      have hfz := hB.free k
      have hset := HS.out k (by omega)
      obtain ⟨x, hx⟩ : ∃ x, l.getD k 0 = x := ⟨_, rfl⟩
      rw [hx] at hcell hx7 hset
      have ha : Go.bits .and .i64 (x : Int) (c : Int) = ((x &&& c : Nat) : Int) := and7 hx7 hc
      have hN := hB.set k (.int .i64 ((x &&& c : Nat) : Int))
      have e2 : (nums (keepK l c k)).set k (.int .i64 ((x &&& c : Nat) : Int)) = nums (keepK l c (k + 1)) := by
        rw [← hset]; unfold nums; rw [List.map_set]
      rw [e2] at hN
      have hbN := hb.setCell (p := ⟨w.heap.size, k, none⟩) (Nat.le_refl _) (.int .i64 ((x &&& c : Nat) : Int))
      have HN := Lib.hid (And.intro hN hbN)
      generalize (keepK l c k)[k] = old at hold
      generalize x &&& c = z at *
      clear hN hbN e2 hset hx hB hb hkl
      go_wp2
      go_roundw
      case rel => exact ⟨k + 1, by omega, by go_num, HN.out.1, HN.out.2⟩
      case measure => simp [intOf]; omega
    · obtain rfl : k = len := by omega
      rw [HE.out] at hB
      go_wp2
      go_ret
      exact ⟨rfl, hB, hb⟩

end Go.Proofs.Ytmoemalkojckaaa.J
