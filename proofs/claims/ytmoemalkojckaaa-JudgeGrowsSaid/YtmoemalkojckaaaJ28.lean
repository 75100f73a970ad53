import Derived.Test.YtmoemalkojckaaaProg
import Derived.Below
import Derived.Deep.Draws
import Derived.Deep.AppendLies
import Derived.OwnWalk
import Derived.Laws.MakeOwn
import Derived.Laws.OwnMore
import Derived.Deep.OwnRows
import Derived.Tactics
import Derived.Laws.Slices
import Derived.WalkKit
import Derived.KernelRfl
import Derived.RowKit3
import Derived.Deep.LoopGhost
import Derived.Deep.QuietTactic
import Derived.BigQuiet
import Derived.Deep.DeepCutAuto
import Derived.Deep.CutBlock
import Derived.Deep.RegionHeld3
import Derived.Laws.Rows
import Derived.Laws.BitsLemmas
import Derived.RowKit
import Derived.Lib.Hide
import Derived.WalkLawsBesides
import Derived.WalkSpells
import Derived.Deep.DeepFit
import Derived.BigRegion
import Derived.Deep.RegionWith
import Derived.Test.YtmoemalkojckaaaJ27
namespace Go.Proofs.Ytmoemalkojckaaa.J
open Go.RowKit
set_option linter.unusedVariables false
set_option linter.unusedSimpArgs false

theorem shP_row (tape : List Int) (n k : Nat) (h1 : 1 ≤ n) (h7 : n ≤ 7) (k1 : 1 ≤ k) (k3 : k ≤ 3) (i : Nat) (hi : i < k) : ((shP tape n k).getD i []).length = n := by
  have hv := shape_valid tape n k h1 h7 k1 k3
  have hl := shP_length tape n k
  have e : (shP tape n k).getD i [] = (shP tape n k)[i]'(by omega) := by simp [List.getD, hl, hi]
  rw [e]; exact (hv.p _ (List.getElem_mem _)).1
theorem shC_row (tape : List Int) (n k : Nat) (h1 : 1 ≤ n) (h7 : n ≤ 7) (k1 : 1 ≤ k) (k3 : k ≤ 3) (i : Nat) (hi : i < k) : ((shC tape n k).getD i []).length = n := by
  have hv := shape_valid tape n k h1 h7 k1 k3
  have hl := shC_length tape n k
  have e : (shC tape n k).getD i [] = (shC tape n k)[i]'(by omega) := by simp [List.getD, hl, hi]
  rw [e]; exact (hv.c _ (List.getElem_mem _)).1
theorem valid_le {n : Nat} {P C : List (List Nat)} (h : JM.Valid n P C) (r m : Nat) : (P.getD r []).getD m 0 ≤ 3 ∧ (C.getD r []).getD m 0 ≤ 7 := by
  constructor
  · by_cases hr : r < P.length
    · have e : P.getD r [] = P[r] := by simp [List.getD, hr]
      rw [e]; exact getD_le (h.p _ (List.getElem_mem _)).2 m
    · have e : P.getD r [] = [] := by rw [List.getD, List.getElem?_eq_none (by omega)]; rfl
      rw [e]; simp
  · by_cases hr : r < C.length
    · have e : C.getD r [] = C[r] := by simp [List.getD, hr]
      rw [e]; exact getD_le (h.c _ (List.getElem_mem _)).2 m
    · have e : C.getD r [] = [] := by rw [List.getD, List.getElem?_eq_none (by omega)]; rfl
      rw [e]; simp

theorem Rows2.read2 {w1 wr : World} {base n r m q L c : Nat} {g : List Nat} {R : List (List Nat)} (h : Rows2 w1 base (.slice (some ⟨q, 0, none⟩) L c) g R n) (hb : Below w1.heap.size w1 wr) (hr : r < R.length) (hm : m < n) :
    q < w1.heap.size ∧ ∃ a, a < w1.heap.size ∧ wr.cell? ⟨q, r, none⟩ = some (.slice (some ⟨a, 0, none⟩) n n) ∧ wr.cell? ⟨a, m, none⟩ = some (.int .i64 (((R.getD r []).getD m 0 : Nat) : Int)) := by
  obtain ⟨q', c', a, e, h1, h2, h3, h4⟩ := h.read hb hr hm
  injection e with e1 e2 e3
  injection e1 with e1
  injection e1 with e1
  subst e1
  exact ⟨h1, a, h2, h3, h4⟩
theorem GI.readP2 {w1 wr : World} {n q L c : Nat} {vP vC uC : Value} {gP gC : List Nat} {tP tC UP UC : List (List Nat)} {b r mP mC : Nat} (h : GI w1 wr n vP vC (.slice (some ⟨q, 0, none⟩) L c) uC gP gC tP tC UP UC b r mP mC) (hr : r < UP.length) (hm : mP < n) :
    wr.cell? ⟨q, r, none⟩ = some (.slice (some ⟨gP.getD r 0, 0, none⟩) n n) ∧ wr.cell? ⟨gP.getD r 0, mP, none⟩ = some (.int .i64 (((UP.getD r []).getD mP 0 : Nat) : Int)) ∧
      wr.frozen? ⟨gP.getD r 0, mP, none⟩ = false ∧ gP.getD r 0 ≠ q ∧ gP.getD r 0 ≠ b ∧ gP.getD r 0 ≠ b + 1 ∧ w1.heap.size ≤ gP.getD r 0 := by
  obtain ⟨q', c', e, h1⟩ := h.readP hr hm
  injection e with e1 e2 e3
  injection e1 with e1
  injection e1 with e1
  subst e1
  exact h1
theorem GI.readC2 {w1 wr : World} {n q L c : Nat} {vP vC uP : Value} {gP gC : List Nat} {tP tC UP UC : List (List Nat)} {b r mP mC : Nat} (h : GI w1 wr n vP vC uP (.slice (some ⟨q, 0, none⟩) L c) gP gC tP tC UP UC b r mP mC) (hr : r < UC.length) (hm : mC < n) :
    wr.cell? ⟨q, r, none⟩ = some (.slice (some ⟨gC.getD r 0, 0, none⟩) n n) ∧ wr.cell? ⟨gC.getD r 0, mC, none⟩ = some (.int .i64 (((UC.getD r []).getD mC 0 : Nat) : Int)) ∧
      wr.frozen? ⟨gC.getD r 0, mC, none⟩ = false ∧ gC.getD r 0 ≠ q ∧ gC.getD r 0 ≠ b ∧ gC.getD r 0 ≠ b + 1 ∧ w1.heap.size ≤ gC.getD r 0 := by
  obtain ⟨q', c', e, h1⟩ := h.readC hr hm
  injection e with e1 e2 e3
  injection e1 with e1
  injection e1 with e1
  subst e1
  exact h1

theorem GI.drewed {w1 wr : World} {n : Nat} {vP vC uP uC : Value} {gP gC : List Nat} {tP tC UP UC : List (List Nat)} {b r mP mC : Nat} (h : GI w1 wr n vP vC uP uC gP gC tP tC UP UC b r mP mC) :
    GI w1 wr.drew n vP vC uP uC gP gC tP tC UP UC b r mP mC := by
  obtain ⟨RP, RC, p, c, xP, xC⟩ := h.rows
  exact ⟨h.below.drew, h.lb, ⟨RP, RC, p.move (fun k _ => rfl), c.move (fun k _ => rfl), xP, xC⟩, h.sep, h.bt, h.bu⟩

theorem Rows2.tab2 {w : World} {base q L c : Nat} {gs : List Nat} {rows : List (List Nat)} {n : Nat} (h : Rows2 w base (.slice (some ⟨q, 0, none⟩) L c) gs rows n) (hpos : 0 < rows.length) :
    TabAt w (some ⟨q, 0, none⟩) (itab rows) ∧ ∀ r, ((itab rows).getD r []).length ≤ n := by
  obtain ⟨A, c', e, h1⟩ := h.tab hpos
  injection e with e1 e2 e3
  subst e1
  exact h1

theorem undrew {w w' : World} (h : Below w.drew.heap.size w.drew w') : Below w.heap.size w w' := ⟨h.os, h.tape, h.output, h.size, h.block⟩

theorem imp_ways {x y : Bool} (h : x = true → y = true) : x = false ∨ (x = true ∧ y = true) := by
  cases x with
  | false => exact .inl rfl
  | true => exact .inr ⟨rfl, h rfl⟩

set_option maxHeartbeats 12800000 in
set_option maxRecDepth 100000 in
theorem grows_calls (a b : Int) (tape more : List Int) (cap cap2 : Nat) (A A2 : Option Addr) (w : World) (htl : tape.length ≤ 9223372036854775807) (hR : RowAt w A tape) (htl2 : more.length ≤ 9223372036854775807) (hR2 : RowAt w A2 more) :
    Calls Try.prog 5 #[.int .i64 a, .int .i64 b, .slice A tape.length cap, .slice A2 more.length cap2] w fun e w' => e = .returned (.bool true) ∧ Below w.heap.size w w' := by
  have hk := kOf_le b
  have hn := nOf_le a
  have hvt := shape_valid tape (nOf a) (kOf b) hn.1 hn.2 hk.1 hk.2
  have hvu := shape_valid more (nOf a) (kOf b) hn.1 hn.2 hk.1 hk.2
  have HSH := Lib.hid (shape_calls a b tape cap A w htl hR)
  have HSH2 := Lib.hid (fun w1 (hb : Below w.heap.size w w1) => shape_calls a b more cap2 A2 w1 htl2 (hR2.below hb))
  unfold ShapeEnd at HSH HSH2
  have lP := shP_length tape (nOf a) (kOf b)
  have lC := shC_length tape (nOf a) (kOf b)
  have lP2 := shP_length more (nOf a) (kOf b)
  have lC2 := shC_length more (nOf a) (kOf b)
  generalize nOf a = n at *
  generalize kOf b = k at *
  generalize shP tape n k = P at *
  generalize shC tape n k = C at *
  generalize shP more n k = P2 at *
  generalize shC more n k = C2 at *
  have hn1 := hn.1
  have hn7 := hn.2
  have hk1 := hk.1
  have hk3 := hk.2
  have HVT := Lib.hid hvt
  have HVU := Lib.hid hvu
  have HL := Lib.hid (show P.length = k ∧ C.length = k ∧ P2.length = k ∧ C2.length = k from ⟨lP, lC, lP2, lC2⟩)
  clear hk hn hvt hvu lP lC lP2 lC2 hR hR2 htl htl2
  go_enter Try.func5, Try.ntmps5
  go_wp2_with fail
  refine (HSH.out).mono ?_
  rintro e w1 ⟨vP, vC, gP, gC, rfl, hP, hC, -, hb1⟩
  have HP := Lib.hid hP
  have HC := Lib.hid hC
  have HB1 := Lib.hid hb1
  have hs1 := hb1.size
  clear hP hC hb1
  go_wp2_with fail
  refine (HSH2.out _ HB1.out).mono ?_
  rintro e w2 ⟨uP, uC, hgP, hgC, rfl, hP2, hC2, hsep, hb2⟩
  have hs2 := hb2.size
  have hG : GI w1 ((w2.alloc (.cells #[vP, vC] 24)).alloc (.cells #[uP, uC] 24)) n vP vC uP uC hgP hgC P C P2 C2 w2.heap.size 0 0 0 := by
    have e1 : (w2.alloc (.cells #[vP, vC] 24)).heap.size = w2.heap.size + 1 := by simp
    have far : ∀ i, i < w2.heap.size → ((w2.alloc (.cells #[vP, vC] 24)).alloc (.cells #[uP, uC] 24)).heap[i]? = w2.heap[i]? := fun i hi => by
      rw [Below.heap_alloc _ _ _ (by rw [e1]; omega), Below.heap_alloc _ _ _ hi]
    refine ⟨(hb2.alloc hs2 _).alloc (by rw [e1]; omega) _, hs2, ⟨P2, C2, hP2.move (fun i hi => far i (hP2.lt hi).2), hC2.move (fun i hi => far i (hC2.lt hi).2), Mix.start fun i hi => ?_, Mix.start fun i hi => ?_⟩, hsep, (Blk.new w2 #[vP, vC] 24).alloc _, ?_⟩
    · have := hP2.len
      exact (hP2.blk i (by omega)).2.1
    · have := hC2.len
      exact (hC2.blk i (by omega)).2.1
    · have := Blk.new (w2.alloc (.cells #[vP, vC] 24)) #[uP, uC] 24
      rw [e1] at this; exact this
  have HG := Lib.hid hG
  clear hP2 hC2 hb2 hsep hG
  obtain ⟨qP, cP, aP0, e, -⟩ := HP.out.read (r := 0) (m := 0) (Below.refl _ _) (by rw [HL.out.1]; omega) (by omega)
  rw [HL.out.1] at e
  subst e
  obtain ⟨qC, cC, aC0, e, -⟩ := HC.out.read (r := 0) (m := 0) (Below.refl _ _) (by rw [HL.out.2.1]; omega) (by omega)
  rw [HL.out.2.1] at e
  subst e
  obtain ⟨pP, dP, e, -⟩ := HG.out.readP (by rw [HL.out.2.2.1]; omega) (by omega)
  rw [HL.out.2.2.1] at e
  subst e
  obtain ⟨pC, dC, e, -⟩ := HG.out.readC (by rw [HL.out.2.2.2]; omega) (by omega)
  rw [HL.out.2.2.2] at e
  subst e
  clear aP0 aC0
  generalize hbe : w2.heap.size = bb at *
  go_wp2_with fail
  rw [hbe] at *
  go_loopw [11] (fun i wr => ∃ r : Nat, r ≤ k ∧ i = .int .i64 r ∧ GI w1 wr n (.slice (some ⟨qP, 0, none⟩) k cP) (.slice (some ⟨qC, 0, none⟩) k cC) (.slice (some ⟨pP, 0, none⟩) k dP) (.slice (some ⟨pC, 0, none⟩) k dC) hgP hgC P C P2 C2 bb r 0 0) (fun i _ => k - (intOf i).toNat)
  case atStart => exact ⟨0, by omega, rfl, HG.out⟩
  case round =>
    obtain ⟨r, hr, rfl, hG⟩ := hrel
    have hb0 := hG.bt.cell 0 rfl
    by_cases hlt : r < k
    · have t1 : decide ((r : Int) < (k : Int)) = true := decide_eq_true (by omega)
      have HG2 := Lib.hid hG
      clear hG HG
      go_wp2_with fail
      go_loopw [12] (fun j wr => ∃ m : Nat, m ≤ n ∧ j = .int .i64 m ∧ GI w1 wr n (.slice (some ⟨qP, 0, none⟩) k cP) (.slice (some ⟨qC, 0, none⟩) k cC) (.slice (some ⟨pP, 0, none⟩) k dP) (.slice (some ⟨pC, 0, none⟩) k dC) hgP hgC P C P2 C2 bb r m m) (fun j _ => n - (intOf j).toNat)
      case atStart => exact ⟨0, by omega, rfl, HG2.out⟩
      case round =>
        obtain ⟨wy, h⟩ : ∃ wz : World, wz = wr := ⟨_, rfl⟩
        subst h
        obtain ⟨m, hm, rfl, hG⟩ := hrel
        have hb0 := hG.bt.cell 0 rfl
        obtain ⟨hq1, -⟩ := HP.out.read2 (r := r) (m := 0) hG.below (by rw [HL.out.1]; omega) (by omega)
        obtain ⟨-, a1, -, hq2, -⟩ := HP.out.read2 (r := r) (m := 0) hG.below (by rw [HL.out.1]; omega) (by omega)
        by_cases hmt : m < n
        · have t2 : decide ((m : Int) < (n : Int)) = true := decide_eq_true (by omega)
          go_upto_region 8 with (fail)
          go_cut [] (fun wx => GI w1 wx n (.slice (some ⟨qP, 0, none⟩) k cP) (.slice (some ⟨qC, 0, none⟩) k cC) (.slice (some ⟨pP, 0, none⟩) k dP) (.slice (some ⟨pC, 0, none⟩) k dC) hgP hgC P C P2 C2 bb r (m + 1) m)
          case first =>
            have hb1 := hG.bu.cell 0 rfl
            obtain ⟨hq1, a1, ha1, c1, c2⟩ := HP.out.read2 (r := r) (m := m) hG.below (by rw [HL.out.1]; omega) hmt
            obtain ⟨c3, c4, c5, n1, n2, n3, n4⟩ := hG.readP2 (by rw [HL.out.2.2.1]; omega) hmt
            have hx := (valid_le HVT.out r m).1
            have hy := (valid_le HVU.out r m).1
            have hst := hG.stepP (by rw [HL.out.2.2.1]; omega) hmt
            obtain ⟨x, hxe⟩ : ∃ x, (P.getD r []).getD m 0 = x := ⟨_, rfl⟩
            obtain ⟨y, hye⟩ : ∃ y, (P2.getD r []).getD m 0 = y := ⟨_, rfl⟩
            obtain ⟨g, hge⟩ : ∃ g, hgP.getD r 0 = g := ⟨_, rfl⟩
            rw [hxe] at c2 hx hst
            rw [hye] at c4 hy hst
            rw [hge] at c3 c4 c5 n1 n2 n3 n4 hst
            have hor : Go.bits .or .i64 (y : Int) (x : Int) = ((y ||| x : Nat) : Int) := or7 (by omega) (by omega)
            have HST := Lib.hid hst
            clear hst hxe hye hge hG hq2
            go_region
            go_wp2_with fail
            go_meet
            exact HST.out.drewed
          case rest =>
            clear hG hb0 hq2 a1 hq1
            obtain ⟨wx, hwx⟩ : ∃ wx : World, wx = wc := ⟨_, rfl⟩
            subst hwx
            have hG := hcut
            clear hcut
            go_wp2_with fail
            have hb0 := hG.bt.cell 1 rfl
            have hb1 := hG.bu.cell 1 rfl
            obtain ⟨hq1, a1, ha1, c1, c2⟩ := HC.out.read2 (r := r) (m := m) hG.below (by rw [HL.out.2.1]; omega) hmt
            obtain ⟨c3, c4, c5, n1, n2, n3, n4⟩ := hG.readC2 (by rw [HL.out.2.2.2]; omega) hmt
            have hx := (valid_le HVT.out r m).2
            have hy := (valid_le HVU.out r m).2
            have hst := hG.stepC (by rw [HL.out.2.2.2]; omega) hmt
            obtain ⟨x, hxe⟩ : ∃ x, (C.getD r []).getD m 0 = x := ⟨_, rfl⟩
            obtain ⟨y, hye⟩ : ∃ y, (C2.getD r []).getD m 0 = y := ⟨_, rfl⟩
            obtain ⟨g, hge⟩ : ∃ g, hgC.getD r 0 = g := ⟨_, rfl⟩
            rw [hxe] at c2 hx hst
            rw [hye] at c4 hy hst
            rw [hge] at c3 c4 c5 n1 n2 n3 n4 hst
            have hor : Go.bits .or .i64 (y : Int) (x : Int) = ((y ||| x : Nat) : Int) := or7 (by omega) (by omega)
            have HST := Lib.hid hst
            clear hst hxe hye hge hG
            go_region
            go_wp2_with fail
            go_roundw
            case rel => exact ⟨m + 1, by omega, by go_num, HST.out.drewed⟩
            case measure => simp [intOf]; omega
        · have t2 : decide ((m : Int) < (n : Int)) = false := decide_eq_false (by omega)
          obtain rfl : m = n := by omega
          have HN := Lib.hid hG.next
          clear hG
          go_wp2_with fail
          go_roundw
          case rel => exact ⟨r + 1, by omega, by go_num, HN.out⟩
          case measure => simp [intOf]; omega
    · have t1 : decide ((r : Int) < (k : Int)) = false := decide_eq_false (by omega)
      obtain rfl : r = k := by omega
      have hbu := hG.bu.cell 0 rfl
      have hsw := hG.below.size
      have HBW := Lib.hid (HB1.out.trans (hG.below.mono hs1))
      obtain ⟨RP, RC, p, c, xP, xC⟩ := hG.rows
      obtain ⟨lP, lC, lP2, lC2⟩ := HL.out
      have hvo := orT_valid HVU.out HVT.out (by omega)
      have eP := xP.done (by omega) (by omega) (fun i hi => by have := HP.out.len; exact (HP.out.blk i (by omega)).2.1)
      have eC := xC.done (by omega) (by omega) (fun i hi => by have := HC.out.len; exact (HC.out.blk i (by omega)).2.1)
      have lOP : (orT P2 P).length = r := by rw [orT_length]; exact lP
      have lOC : (orT C2 C).length = r := by rw [orT_length]; exact lC
      subst eP
      subst eC
      have hTt : Tab wr (some ⟨qP, 0, none⟩) (some ⟨qC, 0, none⟩) (itab P) (itab C) := by
        obtain ⟨t0, b0⟩ := HP.out.tab2 (by omega)
        obtain ⟨t1, b1⟩ := HC.out.tab2 (by omega)
        refine ⟨t0.below hG.below, t1.below hG.below, ?_, ?_, fun r => ?_, fun r => ?_⟩
        · rw [itab_length]; omega
        · rw [itab_length]; omega
        · have := b0 r; omega
        · have := b1 r; omega
      have hTu : Tab wr (some ⟨pP, 0, none⟩) (some ⟨pC, 0, none⟩) (itab (orT P2 P)) (itab (orT C2 C)) := by
        obtain ⟨t0, b0⟩ := p.tab2 (by omega)
        obtain ⟨t1, b1⟩ := c.tab2 (by omega)
        refine ⟨t0, t1, ?_, ?_, fun r => ?_, fun r => ?_⟩
        · rw [itab_length]; omega
        · rw [itab_length]; omega
        · have := b0 r; omega
        · have := b1 r; omega
      have D1 := Lib.hid (fun wx (hx : Tab wx (some ⟨qP, 0, none⟩) (some ⟨qC, 0, none⟩) (itab P) (itab C)) => decidable_calls P C n HVT.out _ _ cP cC wx hx (validB_of HVT.out))
      have D2 := Lib.hid (fun wx (hx : Tab wx (some ⟨pP, 0, none⟩) (some ⟨pC, 0, none⟩) (itab (orT P2 P)) (itab (orT C2 C))) => decidable_calls (orT P2 P) (orT C2 C) n hvo _ _ dP dC wx hx (validB_of hvo))
      have C1 := Lib.hid (fun wx (hx : Tab wx (some ⟨qP, 0, none⟩) (some ⟨qC, 0, none⟩) (itab P) (itab C)) => conflicted_calls P C n HVT.out _ _ cP cC wx hx (validB_of HVT.out))
      have C2' := Lib.hid (fun wx (hx : Tab wx (some ⟨pP, 0, none⟩) (some ⟨pC, 0, none⟩) (itab (orT P2 P)) (itab (orT C2 C))) => conflicted_calls (orT P2 P) (orT C2 C) n hvo _ _ dP dC wx hx (validB_of hvo))
      rw [lP, lC] at D1 C1
      rw [lOP, lOC] at D2 C2'
      have gd := grow_dec HVU.out HVT.out (by omega)
      have gc := grow_conf HVU.out HVT.out (by omega)
      generalize (JM.decT n P C).1 = x1 at *
      generalize (JM.decT n P C).2 = y1 at *
      generalize (JM.decT n (orT P2 P) (orT C2 C)).1 = x2 at *
      generalize (JM.decT n (orT P2 P) (orT C2 C)).2 = y2 at *
      obtain ⟨m1, hm1⟩ : ∃ m, maskOf 7 (JM.conf P C) = m := ⟨_, rfl⟩
      obtain ⟨m2, hm2⟩ : ∃ m, maskOf 7 (JM.conf (orT P2 P) (orT C2 C)) = m := ⟨_, rfl⟩
      rw [hm1] at C1 gc
      rw [hm2] at C2' gc
      have GD := Lib.hid gd
      have HBT := Lib.hid hG.bt
      have HBU := Lib.hid hG.bu
      have HT := Lib.hid hTt
      have HU := Lib.hid hTu
      have HAW := Lib.hid awake_calls
      have hb1 := hG.bt.cell 1 rfl
      clear gd hG p c xP xC hm1 hm2 hTt hTu hvo lOP lOC lP lC lP2 lC2 hbu
      go_wp2_with fail
      refine (D1.out _ HT.out).mono ?_
      rintro e w3 ⟨rfl, hb3⟩
      have HT3 := Lib.hid (HT.out.below hb3)
      have HU3 := Lib.hid (HU.out.below hb3)
      have HBT3 := Lib.hid (HBT.out.below hb3 HBT.out.lt)
      have HBU3 := Lib.hid (HBU.out.below hb3 HBU.out.lt)
      have HB3 := Lib.hid (HBW.out.trans (hb3.mono HBW.out.size))
      have k0 := HBU3.out.cell 0 rfl
      have k1 := HBU3.out.cell 1 rfl
      clear hb3 HT HU HBT HBU HBW hb0 hb1
      go_wp2_with fail
      refine (D2.out _ HU3.out).mono ?_
      rintro e w4 ⟨rfl, hb4⟩
      have hT4 := HT3.out.below hb4
      have hU4 := HU3.out.below hb4
      have hBT4 := HBT3.out.below hb4 HBT3.out.lt
      have hBU4 := HBU3.out.below hb4 HBU3.out.lt
      have hB4 := HB3.out.trans (hb4.mono HB3.out.size)
      clear hb4 D1 D2 HSH HSH2 HVT HVU HG HP HC HT3 HU3 HBT3 HBU3 HB3 k0 k1
      go_wp2_with fail
      have f0 := hBT4.cell 0 rfl
      have f1 := hBT4.cell 1 rfl
      have f2 := hBU4.cell 0 rfl
      have f3 := hBU4.cell 1 rfl
      have hw1 := GD.out.1
      have hw2 := GD.out.2
      clear GD
      have HS := Lib.hid (fun wz (h : Below w4.heap.size w4 wz) => (show wz.cell? ⟨bb, 0, none⟩ = some (.slice (some ⟨qP, 0, none⟩) r cP) ∧ wz.cell? ⟨bb, 1, none⟩ = some (.slice (some ⟨qC, 0, none⟩) r cC) ∧ wz.cell? ⟨bb + 1, 0, none⟩ = some (.slice (some ⟨pP, 0, none⟩) r dP) ∧ wz.cell? ⟨bb + 1, 1, none⟩ = some (.slice (some ⟨pC, 0, none⟩) r dC) from
        ⟨(hBT4.below h hBT4.lt).cell 0 rfl, (hBT4.below h hBT4.lt).cell 1 rfl, (hBU4.below h hBU4.lt).cell 0 rfl, (hBU4.below h hBU4.lt).cell 1 rfl⟩))
      have HTT := Lib.hid (fun wz (h : Below w4.heap.size w4 wz) => hT4.below h)
      have HUU := Lib.hid (fun wz (h : Below w4.heap.size w4 wz) => hU4.below h)
      have HB4 := Lib.hid hB4
      have k0 : Below w4.heap.size w4 w4.drew := (Below.refl _ _).drew
      clear hT4 hU4 hB4 hBU4 hBT4 f0 f1 f2 f3
      have q0 := (HS.out _ k0).1
      have q1 := (HS.out _ k0).2.1
      have q2 := (HS.out _ k0).2.2.1
      have q3 := (HS.out _ k0).2.2.2
      rcases imp_ways hw1 with rfl | ⟨rfl, rfl⟩ <;> rcases imp_ways hw2 with rfl | ⟨rfl, rfl⟩
      all_goals clear hw1 hw2
      all_goals
        clear q0 q1 q2 q3
        refine wp_region_noPanic ?_
        refine wp_region_held_drew (S := (fun w' => w'.cell? ⟨bb, 0, none⟩ = some (.slice (some ⟨qP, 0, none⟩) r cP) ∧ w'.cell? ⟨bb, 1, none⟩ = some (.slice (some ⟨qC, 0, none⟩) r cC) ∧ w'.cell? ⟨bb + 1, 0, none⟩ = some (.slice (some ⟨pP, 0, none⟩) r dP) ∧ w'.cell? ⟨bb + 1, 1, none⟩ = some (.slice (some ⟨pC, 0, none⟩) r dC))) (by kernel_rfl) (HS.out _ k0) (fun hHeld => ?_)
        refine wpAnyH_take (i := 0) (v := ?_) rfl (by kernel_rfl) (by kernel_rfl) (by kernel_rfl) (fun _ _ _ h => h) (Or.inl ⟨by rfl, ?_⟩) hHeld ?_
        rotate_left
        · intro wq hSw
          try dsimp only at hSw
          go_simp <;> with_reducible rfl
        try simp only [Act.put, List.setIfInBounds_toArray, List.set_cons_zero, List.set_cons_succ, List.getElem_toArray, List.getElem_cons_zero, List.getElem_cons_succ]
        refine wpAnyH_take (i := 1) (v := ?_) rfl (by kernel_rfl) (by kernel_rfl) (by kernel_rfl) (fun _ _ _ h => h) (Or.inl ⟨by rfl, ?_⟩) hHeld ?_
        rotate_left
        · intro wq hSw
          try dsimp only at hSw
          go_simp <;> with_reducible rfl
        try simp only [Act.put, List.setIfInBounds_toArray, List.set_cons_zero, List.set_cons_succ, List.getElem_toArray, List.getElem_cons_zero, List.getElem_cons_succ]
        refine wpAnyH_take (i := 2) (v := ?_) rfl (by kernel_rfl) (by kernel_rfl) (by kernel_rfl) (fun _ _ _ h => h) (Or.inl ⟨by rfl, ?_⟩) hHeld ?_
        rotate_left
        · intro wq hSw
          try dsimp only at hSw
          go_simp <;> with_reducible rfl
        try simp only [Act.put, List.setIfInBounds_toArray, List.set_cons_zero, List.set_cons_succ, List.getElem_toArray, List.getElem_cons_zero, List.getElem_cons_succ]
        first
        | (refine wpAnyH_take (i := 3) rfl (by kernel_rfl) (by kernel_rfl) (by kernel_rfl) (fun _ _ _ h => h) (Or.inr ⟨by rfl, rfl⟩) hHeld ?_)
        | (refine wpAnyH_take (i := 3) (v := ?_) rfl (by kernel_rfl) (by kernel_rfl) (by kernel_rfl) (fun _ _ _ h => h) (Or.inl ⟨by rfl, ?_⟩) hHeld ?_; rotate_left; (intro wq hSw; (try dsimp only at hSw); go_simp <;> with_reducible rfl))
        | fail
        try simp only [Act.put, List.setIfInBounds_toArray, List.set_cons_zero, List.set_cons_succ, List.getElem_toArray, List.getElem_cons_zero, List.getElem_cons_succ]
        refine wpAnyH_take (i := 4) (v := ?_) rfl (by kernel_rfl) (by kernel_rfl) (by kernel_rfl) (fun _ _ _ h => h) (Or.inl ⟨by rfl, ?_⟩) hHeld ?_
        rotate_left
        · intro wq hSw
          try dsimp only at hSw
          go_simp <;> with_reducible rfl
        try simp only [Act.put, List.setIfInBounds_toArray, List.set_cons_zero, List.set_cons_succ, List.getElem_toArray, List.getElem_cons_zero, List.getElem_cons_succ]
        refine wpAnyH_take (i := 5) (v := ?_) rfl (by kernel_rfl) (by kernel_rfl) (by kernel_rfl) (fun _ _ _ h => h) (Or.inl ⟨by rfl, ?_⟩) hHeld ?_
        rotate_left
        · intro wq hSw
          try dsimp only at hSw
          go_simp <;> with_reducible rfl
        try simp only [Act.put, List.setIfInBounds_toArray, List.set_cons_zero, List.set_cons_succ, List.getElem_toArray, List.getElem_cons_zero, List.getElem_cons_succ]
        refine wpAnyH_take (i := 6) (v := ?_) rfl (by kernel_rfl) (by kernel_rfl) (by kernel_rfl) (fun _ _ _ h => h) (Or.inl ⟨by rfl, ?_⟩) hHeld ?_
        rotate_left
        · intro wq hSw
          try dsimp only at hSw
          go_simp <;> with_reducible rfl
        try simp only [Act.put, List.setIfInBounds_toArray, List.set_cons_zero, List.set_cons_succ, List.getElem_toArray, List.getElem_cons_zero, List.getElem_cons_succ]
        refine wpAnyH_take (i := 7) (v := ?_) rfl (by kernel_rfl) (by kernel_rfl) (by kernel_rfl) (fun _ _ _ h => h) (Or.inl ⟨by rfl, ?_⟩) hHeld ?_
        rotate_left
        · intro wq hSw
          try dsimp only at hSw
          go_simp <;> with_reducible rfl
        try simp only [Act.put, List.setIfInBounds_toArray, List.set_cons_zero, List.set_cons_succ, List.getElem_toArray, List.getElem_cons_zero, List.getElem_cons_succ]
        refine wpAnyH_take (i := 8) (v := ?_) rfl (by kernel_rfl) (by kernel_rfl) (by kernel_rfl) (fun _ _ _ h => h) (Or.inl ⟨by rfl, ?_⟩) hHeld ?_
        rotate_left
        · intro wq hSw
          try dsimp only at hSw
          go_simp <;> with_reducible rfl
        try simp only [Act.put, List.setIfInBounds_toArray, List.set_cons_zero, List.set_cons_succ, List.getElem_toArray, List.getElem_cons_zero, List.getElem_cons_succ]
        first
        | (refine wpAnyH_take (i := 9) rfl (by kernel_rfl) (by kernel_rfl) (by kernel_rfl) (fun _ _ _ h => h) (Or.inr ⟨by rfl, rfl⟩) hHeld ?_)
        | (refine wpAnyH_take (i := 9) (v := ?_) rfl (by kernel_rfl) (by kernel_rfl) (by kernel_rfl) (fun _ _ _ h => h) (Or.inl ⟨by rfl, ?_⟩) hHeld ?_; rotate_left; (intro wq hSw; (try dsimp only at hSw); go_simp <;> with_reducible rfl))
        | fail
        try simp only [Act.put, List.setIfInBounds_toArray, List.set_cons_zero, List.set_cons_succ, List.getElem_toArray, List.getElem_cons_zero, List.getElem_cons_succ]
        refine wpAnyH_take (i := 10) (v := ?_) rfl (by kernel_rfl) (by kernel_rfl) (by kernel_rfl) (fun _ _ _ h => h) (Or.inl ⟨by rfl, ?_⟩) hHeld ?_
        rotate_left
        · intro wq hSw
          try dsimp only at hSw
          go_simp <;> with_reducible rfl
        try simp only [Act.put, List.setIfInBounds_toArray, List.set_cons_zero, List.set_cons_succ, List.getElem_toArray, List.getElem_cons_zero, List.getElem_cons_succ]
        refine wpAnyH_take (i := 11) (v := ?_) rfl (by kernel_rfl) (by kernel_rfl) (by kernel_rfl) (fun _ _ _ h => h) (Or.inl ⟨by rfl, ?_⟩) hHeld ?_
        rotate_left
        · intro wq hSw
          try dsimp only at hSw
          go_simp <;> with_reducible rfl
        try simp only [Act.put, List.setIfInBounds_toArray, List.set_cons_zero, List.set_cons_succ, List.getElem_toArray, List.getElem_cons_zero, List.getElem_cons_succ]
        refine wpAnyH_take (i := 12) (v := ?_) rfl (by kernel_rfl) (by kernel_rfl) (by kernel_rfl) (fun _ _ _ h => h) (Or.inl ⟨by rfl, ?_⟩) hHeld ?_
        rotate_left
        · intro wq hSw
          try dsimp only at hSw
          go_simp <;> with_reducible rfl
        try simp only [Act.put, List.setIfInBounds_toArray, List.set_cons_zero, List.set_cons_succ, List.getElem_toArray, List.getElem_cons_zero, List.getElem_cons_succ]
        refine wpAnyH_take (i := 13) (v := ?_) rfl (by kernel_rfl) (by kernel_rfl) (by kernel_rfl) (fun _ _ _ h => h) (Or.inl ⟨by rfl, ?_⟩) hHeld ?_
        rotate_left
        · intro wq hSw
          try dsimp only at hSw
          go_simp <;> with_reducible rfl
        try simp only [Act.put, List.setIfInBounds_toArray, List.set_cons_zero, List.set_cons_succ, List.getElem_toArray, List.getElem_cons_zero, List.getElem_cons_succ]
        refine wpAnyH_take (i := 15) (v := ?_) rfl (by kernel_rfl) (by kernel_rfl) (by kernel_rfl) (fun _ _ _ h => h) (Or.inl ⟨by rfl, ?_⟩) hHeld ?_
        rotate_left
        · intro wq hSw
          try dsimp only at hSw
          go_simp <;> with_reducible rfl
        try simp only [Act.put, List.setIfInBounds_toArray, List.set_cons_zero, List.set_cons_succ, List.getElem_toArray, List.getElem_cons_zero, List.getElem_cons_succ]
        refine wpAnyH_ready (rs := [14]) (by kernel_rfl) (by simp) ?_
        refine AllReadyH.cons rfl (fun K hK => ?_) AllReadyH.nil
        go_simp
        refine (C1.out _ (HTT.out _ k0)).mono ?_
        rintro e w5 ⟨rfl, hb5⟩
        have k1 := undrew hb5
        clear hb5
        try go_wp2_with fail
        refine hK.out _ _ ?_ (fun hHeld => ?_)
        · exact HS.out _ k1
        clear hK K
        try simp only [Act.put, List.setIfInBounds_toArray, List.set_cons_zero, List.set_cons_succ, List.getElem_toArray, List.getElem_cons_zero, List.getElem_cons_succ]
        refine wpAnyH_ready (rs := [16]) (by kernel_rfl) (by simp) ?_
        refine AllReadyH.cons rfl (fun K hK => ?_) AllReadyH.nil
        go_simp
        refine (C2'.out _ (HUU.out _ k1)).mono ?_
        rintro e w6 ⟨rfl, hb6⟩
        have k2 := k1.trans (hb6.mono k1.size)
        clear hb6
        try go_wp2_with fail
        refine hK.out _ _ ?_ (fun hHeld => ?_)
        · exact HS.out _ k2
        clear hK K
        try simp only [Act.put, List.setIfInBounds_toArray, List.set_cons_zero, List.set_cons_succ, List.getElem_toArray, List.getElem_cons_zero, List.getElem_cons_succ]
        refine wpAnyH_take (i := 17) (v := ?_) rfl (by kernel_rfl) (by kernel_rfl) (by kernel_rfl) (fun _ _ _ h => h) (Or.inl ⟨by rfl, ?_⟩) hHeld ?_
        rotate_left
        · intro wq hSw
          try dsimp only at hSw
          go_simp <;> with_reducible rfl
        try simp only [Act.put, List.setIfInBounds_toArray, List.set_cons_zero, List.set_cons_succ, List.getElem_toArray, List.getElem_cons_zero, List.getElem_cons_succ]
        refine wpAnyH_take (i := 18) (v := ?_) rfl (by kernel_rfl) (by kernel_rfl) (by kernel_rfl) (fun _ _ _ h => h) (Or.inl ⟨by rfl, ?_⟩) hHeld ?_
        rotate_left
        · intro wq hSw
          try dsimp only at hSw
          go_simp <;> with_reducible rfl
        try simp only [Act.put, List.setIfInBounds_toArray, List.set_cons_zero, List.set_cons_succ, List.getElem_toArray, List.getElem_cons_zero, List.getElem_cons_succ]
        refine wpAnyH_take (i := 19) (v := ?_) rfl (by kernel_rfl) (by kernel_rfl) (by kernel_rfl) (fun _ _ _ h => h) (Or.inl ⟨by rfl, ?_⟩) hHeld ?_
        rotate_left
        · intro wq hSw
          try dsimp only at hSw
          go_simp <;> with_reducible rfl
        try simp only [Act.put, List.setIfInBounds_toArray, List.set_cons_zero, List.set_cons_succ, List.getElem_toArray, List.getElem_cons_zero, List.getElem_cons_succ]
        refine wpAnyH_take (i := 20) (v := ?_) rfl (by kernel_rfl) (by kernel_rfl) (by kernel_rfl) (fun _ _ _ h => h) (Or.inl ⟨by rfl, ?_⟩) hHeld ?_
        rotate_left
        · intro wq hSw
          try dsimp only at hSw
          go_simp <;> with_reducible rfl
        try simp only [Act.put, List.setIfInBounds_toArray, List.set_cons_zero, List.set_cons_succ, List.getElem_toArray, List.getElem_cons_zero, List.getElem_cons_succ]
        refine wpAnyH_ready (rs := [21]) (by kernel_rfl) (by simp) ?_
        refine AllReadyH.cons rfl (fun K hK => ?_) AllReadyH.nil
        go_simp
        refine (HAW.out _).mono ?_
        rintro e w7 ⟨rfl, hb7⟩
        have k3 := k2.trans (hb7.mono k2.size)
        clear hb7
        try go_wp2_with fail
        refine hK.out _ _ ?_ (fun hHeld => ?_)
        · exact HS.out _ k3
        clear hK K
        try simp only [Act.put, List.setIfInBounds_toArray, List.set_cons_zero, List.set_cons_succ, List.getElem_toArray, List.getElem_cons_zero, List.getElem_cons_succ]
        refine wpAnyH_take (i := 22) (v := ?_) rfl (by kernel_rfl) (by kernel_rfl) (by kernel_rfl) (fun _ _ _ h => h) (Or.inl ⟨by rfl, ?_⟩) hHeld ?_
        rotate_left
        · intro wq hSw
          try dsimp only at hSw
          go_simp <;> with_reducible rfl
        try simp only [Act.put, List.setIfInBounds_toArray, List.set_cons_zero, List.set_cons_succ, List.getElem_toArray, List.getElem_cons_zero, List.getElem_cons_succ]
        refine wpAnyH_take (i := 23) (v := ?_) rfl (by kernel_rfl) (by kernel_rfl) (by kernel_rfl) (fun _ _ _ h => h) (Or.inl ⟨by rfl, ?_⟩) hHeld ?_
        rotate_left
        · intro wq hSw
          try dsimp only at hSw
          go_simp <;> with_reducible rfl
        try simp only [Act.put, List.setIfInBounds_toArray, List.set_cons_zero, List.set_cons_succ, List.getElem_toArray, List.getElem_cons_zero, List.getElem_cons_succ]
        refine wpAnyH_done (by kernel_rfl) ?_ _
        refine NoPanic.normal ?_
        go_wp2
        go_ret
        exact ⟨rfl, HB4.out.trans (k3.mono HB4.out.size)⟩

end Go.Proofs.Ytmoemalkojckaaa.J
