import Derived.Test.YtmoemalkojckaaaProg
import Derived.Below
import Derived.Deep.Draws
import Derived.Deep.AppendLies
import Derived.OwnWalk
import Derived.Laws.MakeOwn
import Derived.Laws.OwnMore
import Derived.Deep.OwnRows
import Derived.Tactics
import Derived.Laws.Slices
import Derived.WalkKit
import Derived.KernelRfl
import Derived.RowKit3
import Derived.Deep.LoopGhost
import Derived.Deep.QuietTactic
import Derived.BigQuiet
import Derived.Deep.DeepCutAuto
import Derived.Deep.CutBlock
import Derived.Deep.RegionHeld3
import Derived.Laws.Rows
import Derived.Laws.BitsLemmas
import Derived.RowKit
import Derived.Lib.Hide
import Derived.WalkLawsBesides
import Derived.WalkSpells
import Derived.Deep.DeepFit
import Derived.Test.YtmoemalkojckaaaJ12
import Derived.Laws.ShiftsVar
import Derived.Laws.ShiftsVarLaws
import Derived.Test.YtmoemalkojckaaaJ14
namespace Go.Proofs.Ytmoemalkojckaaa.J
open Go.RowKit
set_option linter.unusedVariables false
set_option linter.unusedSimpArgs false

/-! ### the reference's small functions -/
set_option maxHeartbeats 800000 in
theorem rcount_calls (l : List Nat) (c cap : Nat) (A : Option Addr) (w : World) (h7 : ∀ x ∈ l, x ≤ 7) (hc : c ≤ 7) (hlen : l.length ≤ 1000) (hr : RowAt w A (ints l)) :
    Calls Try.prog 30 #[.slice A l.length cap, .int .i64 (c : Int)] w fun e w' => e = .returned (.int .i64 (JM.cnt l c : Nat)) ∧ w = w' := by
  obtain ⟨len, hl⟩ : ∃ len, l.length = len := ⟨_, rfl⟩
  rw [hl] at hlen ⊢
  have HL := Lib.hid hl
  clear hl
  go_enter Try.func30, Try.ntmps30
  go_wp2
  go_loop [5, 6] (fun n i => ∃ k : Nat, k ≤ len ∧ i = .int .i64 k ∧ n = .int .i64 (JM.cnt (l.take k) c : Nat)) (fun _ i => len - (intOf i).toNat)
  case atStart => exact ⟨0, by omega, rfl, rfl⟩
  case round =>
    obtain ⟨k, hk, rfl, rfl⟩ := hrel
    by_cases hlt : k < len
    · obtain ⟨b, off, rfl, hcell⟩ := hr.get (i := k) (by rw [HL.out]; exact hlt)
      have HT := Lib.hid (cnt_take l c k (by rw [HL.out]; exact hlt))
      have hb := cnt_bound l c k
      have hx7 := getD_le h7 k
      obtain ⟨x, hx⟩ : ∃ x, l.getD k 0 = x := ⟨_, rfl⟩
      rw [hx] at hcell hx7
      have HX := Lib.hid hx
      clear hx
      obtain ⟨nn, hnn⟩ : ∃ nn, JM.cnt (l.take k) c = nn := ⟨_, rfl⟩
      have HN := Lib.hid hnn
      rw [hnn] at hb ⊢
      clear hnn
      by_cases hz : x &&& c = 0
      · have ht : (Go.bits .and .i64 (x : Int) (c : Int) != 0) = false := by rw [and7 hx7 hc, hz]; rfl
        have hbs : JM.cnt (l.take (k + 1)) c = nn := by rw [HT.out, HX.out, hz, HN.out]; rfl
        have HB := Lib.hid hbs
        clear hbs hz
        go_wp2
        go_round
        case rel => exact ⟨k + 1, by omega, by go_num, by rw [HB.out]⟩
        case measure => simp [intOf]; omega
      · have ht : (Go.bits .and .i64 (x : Int) (c : Int) != 0) = true := by rw [and7 hx7 hc, bne_iff_ne]; omega
        have hbs : JM.cnt (l.take (k + 1)) c = nn + 1 := by
          rw [HT.out, HX.out, HN.out, if_pos (by rw [bne_iff_ne]; exact hz)]
        have HB := Lib.hid hbs
        clear hbs hz
        go_wp2
        go_round
        case rel => exact ⟨k + 1, by omega, by go_num, by rw [HB.out]; go_num⟩
        case measure => simp [intOf]; omega
    · obtain rfl : k = len := by omega
      go_wp2
      go_ret
      exact ⟨ret_int (by rw [List.take_of_length_le (by rw [HL.out]; omega)]), rfl⟩

theorem rcount_at (l : List Nat) (n c cap : Nat) (A : Option Addr) (hl : l.length = n) (h7 : ∀ x ∈ l, x ≤ 7) (hc : c ≤ 7) (hlen : n ≤ 1000) (w : World) (hr : RowAt w A (ints l)) :
    Calls Try.prog 30 #[.slice A n cap, .int .i64 (c : Int)] w fun e w' => e = .returned (.int .i64 (JM.cnt l c : Nat)) ∧ w = w' := by
  subst hl
  exact rcount_calls l c cap A w h7 hc hlen hr

theorem many_i : ∀ x : Fin 8, (Go.bits .and .i64 (x.val : Int) ((x.val : Int) - 1) != 0) = JM.two x.val := by decide +kernel
theorem many_calls (x : Nat) (hx : x ≤ 7) (w : World) : Calls Try.prog 34 #[.int .i64 (x : Int)] w fun e w' => e = .returned (.bool (JM.two x)) ∧ w = w' := by
  have H := Lib.hid (many_i ⟨x, by omega⟩)
  go_enter Try.func34, Try.ntmps34
  go_wp2
  go_ret
  exact ⟨ret_bool H.out, rfl⟩

theorem rbit_calls (i : Nat) (hi : i < 10) (w : World) : Calls Try.prog 35 #[.int .i64 (i : Int)] w fun e w' => e = .returned (.int .i64 ((2 ^ i : Nat) : Int)) ∧ w = w' := by
  go_enter Try.func35, Try.ntmps35
  go_wp2
  go_ret
  exact ⟨ret_int (wrap_pow i (by omega)), rfl⟩

/-- What the reference asks of a round's Prevotes for a Mixed Precommit. -/
def mixB (l : List Nat) (q : Nat) : Bool := if q = 1 then l.any (· == 3) else decide (q ≤ JM.cnt l 3) && decide (0 < JM.cnt l 1) && decide (0 < JM.cnt l 2)
theorem mixB_eq (l : List Nat) (q : Nat) (hq : 1 ≤ q) : mixB l q = JM.bothQ l q := by
  unfold mixB JM.bothQ
  by_cases h : q = 1
  · subst h
    rw [if_pos rfl]
    cases h3 : l.any (· == 3)
    · simp
    · rw [List.any_eq_true] at h3
      obtain ⟨x, hx, e⟩ := h3
      have e3 : x = 3 := by simpa using e
      subst e3
      have a3 : 0 < JM.cnt l 3 := List.countP_pos_iff.2 ⟨3, hx, rfl⟩
      have a1 : 0 < JM.cnt l 1 := List.countP_pos_iff.2 ⟨3, hx, rfl⟩
      have a2 : 0 < JM.cnt l 2 := List.countP_pos_iff.2 ⟨3, hx, rfl⟩
      have b3 : 1 ≤ JM.cnt l 3 := a3
      simp [a1, a2, b3]
  · rw [if_neg h]
    have : decide (1 < q) = true := decide_eq_true (by omega)
    rw [this]; simp

set_option maxHeartbeats 1600000 in
theorem mix_calls (l : List Nat) (q cap : Nat) (A : Option Addr) (w : World) (h7 : ∀ x ∈ l, x ≤ 7) (hq : 1 ≤ q) (hq7 : q ≤ 1000) (hlen : l.length ≤ 1000) (hr : RowAt w A (ints l)) :
    Calls Try.prog 31 #[.slice A l.length cap, .int .i64 (q : Int)] w fun e w' => e = .returned (.bool (JM.bothQ l q)) ∧ w = w' := by
  have c3 := fun wx (hx : RowAt wx A (ints l)) => rcount_calls l 3 cap A wx h7 (by omega) hlen hx
  have c1 := fun wx (hx : RowAt wx A (ints l)) => rcount_calls l 1 cap A wx h7 (by omega) hlen hx
  have c2 := fun wx (hx : RowAt wx A (ints l)) => rcount_calls l 2 cap A wx h7 (by omega) hlen hx
  rw [← mixB_eq l q hq]
  have b3 : JM.cnt l 3 ≤ l.length := List.countP_le_length
  have b1 : JM.cnt l 1 ≤ l.length := List.countP_le_length
  have b2 : JM.cnt l 2 ≤ l.length := List.countP_le_length
  obtain ⟨len, hl⟩ : ∃ len, l.length = len := ⟨_, rfl⟩
  rw [hl] at hlen b1 b2 b3 c1 c2 c3 ⊢
  have HL := Lib.hid hl
  clear hl
  by_cases h1 : q = 1
  · have hd : mixB l q = l.any (· == 3) := by unfold mixB; rw [if_pos h1]
    have HD := Lib.hid hd
    have hq1 : ((q : Int) == 1) = true := by rw [beq_iff_eq]; omega
    clear c1 c2 c3 hd h1 b1 b2 b3
    go_enter Try.func31, Try.ntmps31
    go_wp2_with fail
    go_loop [5] (fun i => ∃ k : Nat, k ≤ len ∧ i = .int .i64 k ∧ Hid ((l.take k).any (· == 3) = false)) (fun i => len - (intOf i).toNat)
    case atStart => exact ⟨0, by omega, rfl, rfl⟩
    case round =>
      obtain ⟨k, hk, rfl, hA⟩ := hrel
      by_cases hlt : k < len
      · obtain ⟨b, off, rfl, hcell⟩ := hr.get (i := k) (by rw [HL.out]; exact hlt)
        have HT := Lib.hid (any3_take l k (by rw [HL.out]; exact hlt))
        obtain ⟨x, hx⟩ : ∃ x, l.getD k 0 = x := ⟨_, rfl⟩
        rw [hx] at hcell
        have HX := Lib.hid hx
        clear hx
        by_cases h3 : x = 3
        · have h3' : ((x : Int) == 3) = true := by rw [beq_iff_eq]; omega
          have hres : l.any (· == 3) = true := by
            rw [List.any_eq_true]
            refine ⟨3, ?_, rfl⟩
            have hk' : k < l.length := by rw [HL.out]; exact hlt
            have : l[k] = 3 := by rw [getD_lt hk', HX.out]; exact h3
            rw [← this]; exact List.getElem_mem _
          have HQ := Lib.hid hres
          clear hres h3
          go_wp2
          go_ret
          exact ⟨ret_bool (by rw [HD.out, HQ.out]), rfl⟩
        · have h3' : ((x : Int) == 3) = false := by rw [beq_eq_false_iff_ne]; omega
          have hA2 : (l.take (k + 1)).any (· == 3) = false := by rw [HT.out, hA.out, HX.out]; simpa using h3
          have HA2 := Lib.hid hA2
          clear hA2 h3
          go_wp2
          go_round
          case rel => exact ⟨k + 1, by omega, by go_num, HA2.out⟩
          case measure => simp [intOf]; omega
      · obtain rfl : k = len := by omega
        have hA2 : l.any (· == 3) = false := by have := hA.out; rwa [List.take_of_length_le (by rw [HL.out]; omega)] at this
        have HA2 := Lib.hid hA2
        clear hA2
        go_wp2
        go_ret
        exact ⟨ret_bool (by rw [HD.out, HA2.out]), rfl⟩
  · have hd : mixB l q = (decide (q ≤ JM.cnt l 3) && decide (0 < JM.cnt l 1) && decide (0 < JM.cnt l 2)) := by unfold mixB; rw [if_neg h1]
    have HD := Lib.hid hd
    have hq1 : ((q : Int) == 1) = false := by rw [beq_eq_false_iff_ne]; omega
    clear hd h1
    generalize JM.cnt l 3 = n3 at *
    generalize JM.cnt l 1 = n1 at *
    generalize JM.cnt l 2 = n2 at *
    have H1 := Lib.hid c1
    have H2 := Lib.hid c2
    have H3 := Lib.hid c3
    clear c1 c2 c3
    by_cases t3 : q ≤ n3
    · by_cases t1 : 0 < n1
      · go_enter Try.func31, Try.ntmps31
        go_wp2_with fail
        refine (H3.out _ hr).mono ?_
        rintro e w' ⟨rfl, rfl⟩
        go_wp2_with fail
        refine (H1.out _ hr).mono ?_
        rintro e w' ⟨rfl, rfl⟩
        go_wp2_with fail
        refine (H2.out _ hr).mono ?_
        rintro e w' ⟨rfl, rfl⟩
        go_wp2
        go_ret
        exact ⟨ret_bool (by rw [HD.out]; simp [t3, t1]), rfl⟩
      · go_enter Try.func31, Try.ntmps31
        go_wp2_with fail
        refine (H3.out _ hr).mono ?_
        rintro e w' ⟨rfl, rfl⟩
        go_wp2_with fail
        refine (H1.out _ hr).mono ?_
        rintro e w' ⟨rfl, rfl⟩
        go_wp2
        go_ret
        exact ⟨ret_bool (by rw [HD.out]; simp [t1]), rfl⟩
    · go_enter Try.func31, Try.ntmps31
      go_wp2_with fail
      refine (H3.out _ hr).mono ?_
      rintro e w' ⟨rfl, rfl⟩
      go_wp2
      go_ret
      exact ⟨ret_bool (by rw [HD.out]; simp [t3]), rfl⟩

end Go.Proofs.Ytmoemalkojckaaa.J
