import Derived.Test.YtmoemalkojckaaaProg
import Derived.Below
import Derived.Deep.Draws
import Derived.Deep.AppendLies
import Derived.OwnWalk
import Derived.Laws.MakeOwn
import Derived.Laws.OwnMore
import Derived.Deep.OwnRows
import Derived.Tactics
import Derived.Laws.Slices
import Derived.WalkKit
import Derived.KernelRfl
import Derived.RowKit3
import Derived.Deep.LoopGhost
import Derived.Deep.QuietTactic
import Derived.BigQuiet
import Derived.Deep.DeepCutAuto
import Derived.Deep.CutBlock
import Derived.Deep.RegionHeld3
import Derived.Laws.Rows
import Derived.Laws.BitsLemmas
import Derived.RowKit
import Derived.Lib.Hide
import Derived.WalkLawsBesides
import Derived.WalkSpells
import Derived.Deep.DeepFit
import Derived.Test.YtmoemalkojckaaaJ5
namespace Go.Proofs.Ytmoemalkojckaaa.J
open Go.RowKit
set_option linter.unusedVariables false
set_option linter.unusedSimpArgs false

/-! ### rows that are read -/
def ints (l : List Nat) : List Int := l.map fun (x : Nat) => (x : Int)
theorem ints_length (l : List Nat) : (ints l).length = l.length := List.length_map ..
theorem ints_getD (l : List Nat) (i : Nat) : (ints l).getD i 0 = ((l.getD i 0 : Nat) : Int) := by
  unfold ints
  by_cases h : i < l.length
  · simp [List.getD, h]
  · simp [List.getD, h]
def RowAt (w : World) (A : Option Addr) (l : List Int) : Prop := ∀ i, i < l.length → ∃ b off, A = some ⟨b, off, none⟩ ∧ w.cell? ⟨b, off + i, none⟩ = some (.int .i64 (l.getD i 0))
theorem RowAt.below {w w' : World} {A : Option Addr} {l : List Int} (h : RowAt w A l) (hb : Below w.heap.size w w') : RowAt w' A l := fun i hi => by
  obtain ⟨b, off, e, hc⟩ := h i hi
  exact ⟨b, off, e, (hb.cell (World.block_lt_of_cell? w _ hc)).trans hc⟩
theorem RowAt.get {w : World} {A : Option Addr} {l : List Nat} (h : RowAt w A (ints l)) {i : Nat} (hi : i < l.length) : ∃ b off, A = some ⟨b, off, none⟩ ∧ w.cell? ⟨b, off + i, none⟩ = some (.int .i64 ((l.getD i 0 : Nat) : Int)) := by
  obtain ⟨b, off, e, hc⟩ := h i (by rw [ints_length]; exact hi)
  rw [ints_getD] at hc
  exact ⟨b, off, e, hc⟩
theorem RowAt.blk {w : World} {b : Nat} {l : List Nat} (h : Blk w b (nums l) 3) : RowAt w (some ⟨b, 0, none⟩) (ints l) := fun i hi => by
  rw [ints_length] at hi
  refine ⟨b, 0, rfl, ?_⟩
  rw [Nat.zero_add, h.cell i (nums_get l i hi), ints_getD, getD_lt]

theorem and8 : ∀ x c : Fin 8, Go.bits .and .i64 (x.val : Int) (c.val : Int) = ((x.val &&& c.val : Nat) : Int) := by decide +kernel
theorem and7 {x c : Nat} (hx : x ≤ 7) (hc : c ≤ 7) : Go.bits .and .i64 (x : Int) (c : Int) = ((x &&& c : Nat) : Int) := and8 ⟨x, by omega⟩ ⟨c, by omega⟩
theorem or8 : ∀ x c : Fin 8, Go.bits .or .i64 (x.val : Int) (c.val : Int) = ((x.val ||| c.val : Nat) : Int) := by decide +kernel
theorem or7 {x c : Nat} (hx : x ≤ 7) (hc : c ≤ 7) : Go.bits .or .i64 (x : Int) (c : Int) = ((x ||| c : Nat) : Int) := or8 ⟨x, by omega⟩ ⟨c, by omega⟩

theorem getD_le {l : List Nat} {b : Nat} (h : ∀ x ∈ l, x ≤ b) (i : Nat) : l.getD i 0 ≤ b := by
  by_cases hi : i < l.length
  · rw [← getD_lt hi]; exact h _ (List.getElem_mem hi)
  · simp [List.getD, hi]
theorem cnt_take (l : List Nat) (c k : Nat) (hk : k < l.length) : JM.cnt (l.take (k + 1)) c = JM.cnt (l.take k) c + if (l.getD k 0 &&& c != 0) = true then 1 else 0 := by
  unfold JM.cnt
  rw [List.take_succ_eq_append_getElem hk, List.countP_append, getD_lt hk]
  simp [List.countP_cons]
theorem cnt_bound (l : List Nat) (c k : Nat) : JM.cnt (l.take k) c ≤ k := by
  unfold JM.cnt
  exact Nat.le_trans List.countP_le_length (List.length_take_le ..)

set_option maxHeartbeats 800000 in
theorem count_calls (l : List Nat) (c cap : Nat) (A : Option Addr) (w : World) (h7 : ∀ x ∈ l, x ≤ 7) (hc : c ≤ 7) (hlen : l.length ≤ 1000) (hr : RowAt w A (ints l)) :
    Calls Try.prog 26 #[.slice A l.length cap, .int .i64 (c : Int)] w fun e w' => e = .returned (.int .i64 (JM.cnt l c : Nat)) ∧ w = w' := by
  obtain ⟨len, hl⟩ : ∃ len, l.length = len := ⟨_, rfl⟩
  rw [hl] at hlen ⊢
  have HL := Lib.hid hl
  clear hl
  go_enter Try.func26, Try.ntmps26
  go_wp2
  go_loop [5, 10] (fun n i => ∃ k : Nat, k ≤ len ∧ i = .int .i64 k ∧ n = .int .i64 (JM.cnt (l.take k) c : Nat)) (fun _ i => len - (intOf i).toNat)
  case atStart => exact ⟨0, by omega, rfl, rfl⟩
  case round =>
    obtain ⟨k, hk, rfl, rfl⟩ := hrel
    by_cases hlt : k < len
    · obtain ⟨b, off, rfl, hcell⟩ := hr.get (i := k) (by rw [HL.out]; exact hlt)
      have HT := Lib.hid (cnt_take l c k (by rw [HL.out]; exact hlt))
      have hb := cnt_bound l c k
      have hx7 := getD_le h7 k
      obtain ⟨x, hx⟩ : ∃ x, l.getD k 0 = x := ⟨_, rfl⟩
      rw [hx] at hcell hx7
      have HX := Lib.hid hx
      clear hx
      obtain ⟨nn, hnn⟩ : ∃ nn, JM.cnt (l.take k) c = nn := ⟨_, rfl⟩
      have HN := Lib.hid hnn
      rw [hnn] at hb ⊢
      clear hnn
      by_cases hz : x &&& c = 0
      · have ht : (Go.bits .and .i64 (x : Int) (c : Int) != 0) = false := by rw [and7 hx7 hc, hz]; rfl
        have hbs : JM.cnt (l.take (k + 1)) c = nn := by rw [HT.out, HX.out, hz, HN.out]; rfl
        have HB := Lib.hid hbs
        clear hbs hz
        go_wp2
        go_round
        case rel => exact ⟨k + 1, by omega, by go_num, by rw [HB.out]⟩
        case measure => simp [intOf]; omega
      · have ht : (Go.bits .and .i64 (x : Int) (c : Int) != 0) = true := by rw [and7 hx7 hc, bne_iff_ne]; omega
        have hbs : JM.cnt (l.take (k + 1)) c = nn + 1 := by
          rw [HT.out, HX.out, HN.out, if_pos (by rw [bne_iff_ne]; exact hz)]
        have HB := Lib.hid hbs
        clear hbs hz
        go_wp2
        go_round
        case rel => exact ⟨k + 1, by omega, by go_num, by rw [HB.out]; go_num⟩
        case measure => simp [intOf]; omega
    · obtain rfl : k = len := by omega
      go_wp2
      go_ret
      exact ⟨ret_int (by rw [List.take_of_length_le (by rw [HL.out]; omega)]), rfl⟩

end Go.Proofs.Ytmoemalkojckaaa.J
