import Derived.Test.YtmoemalkojckaaaProg
import Derived.Below
import Derived.Deep.Draws
import Derived.Deep.AppendLies
import Derived.OwnWalk
import Derived.Laws.MakeOwn
import Derived.Laws.OwnMore
import Derived.Deep.OwnRows
import Derived.Tactics
import Derived.Laws.Slices
import Derived.WalkKit
import Derived.KernelRfl
import Derived.RowKit3
import Derived.Deep.LoopGhost
import Derived.Deep.QuietTactic
import Derived.BigQuiet
import Derived.Deep.DeepCutAuto
import Derived.Deep.CutBlock
import Derived.Deep.RegionHeld3
import Derived.Laws.Rows
import Derived.Laws.BitsLemmas
import Derived.RowKit
import Derived.Lib.Hide
import Derived.WalkLawsBesides
import Derived.WalkSpells
import Derived.Deep.DeepFit
import Derived.Test.YtmoemalkojckaaaD1
namespace Go.Proofs.Ytmoemalkojckaaa.J
open Go.RowKit
set_option linter.unusedVariables false
set_option linter.unusedSimpArgs false

theorem undrewB {w w' : World} (h : Below w.drew.heap.size w.drew w') : Below w.heap.size w w' := ⟨h.os, h.tape, h.output, h.size, h.block⟩
theorem kap {w a b : World} (h : Below w.heap.size w a) (k : Below a.heap.size a b) : Below w.heap.size w b := h.trans (k.mono h.size)

set_option maxHeartbeats 6400000 in
set_option maxRecDepth 100000 in
theorem decides_calls (P C : List (List Int)) (A0 A1 : Option Addr) (c0 c1 : Nat) (w : World) (ht : Tab w A0 A1 P C) :
    Calls Try.prog 3 #[.agg #[.slice A0 P.length c0, .slice A1 C.length c1]] w fun e w' => e = .returned (.bool true) ∧ Below w.heap.size w w' := by
  obtain ⟨x, y, m, h10, h11, h15, h16⟩ := both_texts P C
  have h13 := valid_calls P C
  have h14 := rvalid_calls P C
  have hbox := Blk.new w #[.slice A0 P.length c0, .slice A1 C.length c1] 24
  have hbel : Below w.heap.size w (w.alloc (.cells #[.slice A0 P.length c0, .slice A1 C.length c1] 24)) := (Below.refl _ _).alloc (Nat.le_refl _) _
  obtain ⟨v, hv⟩ : ∃ v, validB P C = v := ⟨_, rfl⟩
  rw [hv] at h13
  have h14' := fun A0 A1 c0 c1 w ht => (hv ▸ h14 A0 A1 c0 c1 w ht : Calls Try.prog 14 #[.agg #[.slice A0 P.length c0, .slice A1 C.length c1]] w fun e w' => e = .returned (.bool v) ∧ Below w.heap.size w w')
  obtain ⟨n, hn⟩ : ∃ n, P.length = n := ⟨_, rfl⟩
  obtain ⟨n2, hn2⟩ : ∃ n, C.length = n := ⟨_, rfl⟩
  rw [hn, hn2] at h10 h11 h13 h14' h15 h16 hbox hbel ⊢
  have H10 := Lib.hid h10
  have H11 := Lib.hid h11
  have H13 := Lib.hid h13
  have H14 := Lib.hid h14'
  have H15 := Lib.hid h15
  have H16 := Lib.hid h16
  have HT1 := Lib.hid (ht.below hbel)
  have HB1 := Lib.hid hbel
  have HX := Lib.hid hbox
  have H12 := Lib.hid (fun w => table_calls12 A0 A1 n n2 c0 c1 w)
  have HAW := Lib.hid awake_calls
  obtain ⟨w1, hw1⟩ : ∃ w1, w.alloc (.cells #[.slice A0 n c0, .slice A1 n2 c1] 24) = w1 := ⟨_, rfl⟩
  rw [hw1] at HT1 HB1 HX
  have HSZ := HX.out.lt
  have x0 := HX.out.cell 0 rfl
  have x1 := HX.out.cell 1 rfl
  clear h10 h11 h13 h14 h14' h15 h16 hv hn hn2 ht hbel hbox
  go_enter Try.func3, Try.ntmps3
  go_wp2_with fail
  clear hw1
  refine (H10.out _ _ _ _ _ HT1.out).mono ?_
  rintro e w2 ⟨rfl, k2⟩
  have x2 := (HX.out.below k2 HSZ).cell 0 rfl
  have x3 := (HX.out.below k2 HSZ).cell 1 rfl
  go_wp2_with fail
  refine (H12.out _).mono ?_
  rintro e w3 ⟨rfl, k3⟩
  have k3 := kap k2 k3
  go_wp2_with fail
  refine (H11.out _ _ _ _ _ (HT1.out.below k3)).mono ?_
  rintro e w4 ⟨rfl, k4⟩
  have k4 := kap k3 k4
  clear x0 x1 x2 x3 k2 k3
  have HS := Lib.hid (fun wz (h : Below w1.heap.size w1 wz) => (show wz.cell? ⟨w.heap.size, 0, none⟩ = some (.slice A0 n c0) ∧ wz.cell? ⟨w.heap.size, 1, none⟩ = some (.slice A1 n2 c1) from ⟨(HX.out.below h HSZ).cell 0 rfl, (HX.out.below h HSZ).cell 1 rfl⟩))
  have HTT := Lib.hid (fun wz (h : Below w1.heap.size w1 wz) => HT1.out.below h)
  have k5 : Below w1.heap.size w1 w4.drew := k4.drew
  go_wp2_with fail
  go_region_held3 (fun w' => w'.cell? ⟨w.heap.size, 0, none⟩ = some (.slice A0 n c0) ∧ w'.cell? ⟨w.heap.size, 1, none⟩ = some (.slice A1 n2 c1)) (first | exact HS.out _ k5 | exact HS.out _ k6 | exact HS.out _ k7 | exact HS.out _ k8 | exact HS.out _ k9 | exact HS.out _ k10 | exact HS.out _ k11 | exact HS.out _ k12) (first
    | (go_at_call 13; ((with_reducible refine (H13.out _ _ _ _ _ (HTT.out _ k5)).mono ?_); rintro e w6 ⟨rfl, h6⟩; have k6 := kap k5 h6; clear h6))
    | (go_at_call 14; ((with_reducible refine (H14.out _ _ _ _ _ (HTT.out _ k7)).mono ?_); rintro e w8 ⟨rfl, h8⟩; have k8 := kap k7 h8; clear h8))
    | (go_at_call 15; ((with_reducible refine (H15.out _ _ _ _ _ (HTT.out _ k8)).mono ?_); rintro e w9 ⟨rfl, h9⟩; have k9 := kap k8 h9; clear h9))
    | (go_at_call 16; ((with_reducible refine (H16.out _ _ _ _ _ (HTT.out _ k10)).mono ?_); rintro e w11 ⟨rfl, h11⟩; have k11 := kap k10 h11; clear h11))
    | (go_at_call 17; ((with_reducible refine (HAW.out _).mono ?_); rintro e w12 ⟨rfl, h12⟩; have k12 := kap k11 h12; clear h12))
    | (go_at_call 12; ((with_reducible refine (H12.out _).mono ?_); rintro e w10 ⟨rfl, h10⟩; have k10 := kap k9 h10; clear h10))
    | (go_at_call 12; ((with_reducible refine (H12.out _).mono ?_); rintro e w7 ⟨rfl, h7⟩; have k7 := kap k6 h7; clear h7)))
  all_goals go_wp2
  all_goals go_ret
  all_goals exact ⟨rfl, HB1.out.trans (k12.mono HB1.out.size)⟩

end Go.Proofs.Ytmoemalkojckaaa.J
