import Derived.Test.YtmoemalkojckaaaProg
import Derived.Below
import Derived.Deep.Draws
import Derived.Deep.AppendLies
import Derived.OwnWalk
import Derived.Laws.MakeOwn
import Derived.Laws.OwnMore
import Derived.Deep.OwnRows
import Derived.Tactics
import Derived.Laws.Slices
import Derived.WalkKit
import Derived.KernelRfl
import Derived.RowKit3
import Derived.Deep.LoopGhost
import Derived.Deep.QuietTactic
import Derived.BigQuiet
import Derived.Deep.DeepCutAuto
import Derived.Deep.CutBlock
import Derived.Deep.RegionHeld3
import Derived.Laws.Rows
import Derived.Laws.BitsLemmas
import Derived.RowKit
import Derived.Lib.Hide
import Derived.WalkLawsBesides
import Derived.WalkSpells
import Derived.Deep.DeepFit
import Derived.Deep.AppendLies
import Derived.Deep.RegionLaw
import Derived.Test.YtmoemalkojckaaaJ5
namespace Go.Proofs.Ytmoemalkojckaaa.J
open Go.RowKit
set_option linter.unusedVariables false
set_option linter.unusedSimpArgs false

theorem TI.drew {W wr : World} {n : Nat} {rP rC : List (List Nat)} {vP vC : Value} {gP gC : List Nat} (h : TI W wr n rP rC vP vC gP gC) : TI W wr.drew n rP rC vP vC gP gC :=
  ⟨h.t, h.res, h.p.move (fun _ _ => rfl), h.c.move (fun _ _ => rfl), h.sep, h.below.drew⟩
theorem TI.done {W wr : World} {n : Nat} {rP rC : List (List Nat)} {vP vC : Value} {gP gC : List Nat} (h : TI W wr n rP rC vP vC gP gC) (a b : Value) :
    Rows2 ((wr.setCell ⟨W.heap.size, 0, none⟩ a).setCell ⟨W.heap.size, 1, none⟩ b) W.heap.size vP gP rP n ∧ Rows2 ((wr.setCell ⟨W.heap.size, 0, none⟩ a).setCell ⟨W.heap.size, 1, none⟩ b) W.heap.size vC gC rC n ∧ Below W.heap.size W ((wr.setCell ⟨W.heap.size, 0, none⟩ a).setCell ⟨W.heap.size, 1, none⟩ b) := by
  have nP := h.p.not h.res (by decide) (by decide)
  have nC := h.c.not h.res (by decide) (by decide)
  refine ⟨h.p.move fun k hk => ?_, h.c.move fun k hk => ?_, (h.below.setCell (by simp) _).setCell (by simp) _⟩
  · have e : k ≠ W.heap.size := fun e => nP (by rw [← e]; exact hk)
    rw [Below.heap_setCell _ _ _ _ e, Below.heap_setCell _ _ _ _ e]
  · have e : k ≠ W.heap.size := fun e => nC (by rw [← e]; exact hk)
    rw [Below.heap_setCell _ _ _ _ e, Below.heap_setCell _ _ _ _ e]
theorem TI.start (W : World) (f1 f2 : Nat → Nat) (n : Nat) (hn : 1 ≤ n) : TI W ((W.alloc (.cells #[.slice none 0 0, .slice none 0 0] 24)).alloc (.cells #[.slice none 0 0, .slice none 0 0] 24)) n (rowsK f1 n 0) (rowsK f2 n 0) (.slice none 0 0) (.slice none 0 0) [] [] := by
  have e : ∀ f, rowsK f n 0 = [] := fun f => by
    unfold rowsK
    rw [Nat.zero_add, Nat.div_eq_of_lt (by omega)]; rfl
  rw [e, e]
  refine ⟨?_, ?_, Rows2.nil _ _ _, Rows2.nil _ _ _, fun b h => ?_, ((Below.refl _ _).alloc (Nat.le_refl _) _).alloc (by simp) _⟩
  · have := Blk.new (W.alloc (.cells #[.slice none 0 0, .slice none 0 0] 24)) #[.slice none 0 0, .slice none 0 0] 24
    have e : (W.alloc (.cells #[.slice none 0 0, .slice none 0 0] 24)).heap.size = W.heap.size + 1 := by simp
    rw [e] at this
    exact this
  · exact (Blk.new W #[.slice none 0 0, .slice none 0 0] 24).alloc _
  · rcases h with h | h
    · simp [Value.ownBlock] at h
    · simp at h
theorem own_slice {w : World} {base : Nat} {e : TypeId} {size n : Nat} {v : Value} {xs : List Value} (h : w.ownsRow base e size v n xs) : ∃ a c, v = .slice a n c := by
  rcases h.2 with ⟨rfl, rfl⟩ | ⟨g, cap, cur, rfl, _⟩
  · exact ⟨_, _, rfl⟩
  · exact ⟨_, _, rfl⟩

set_option maxHeartbeats 3200000 in
set_option maxRecDepth 100000 in
theorem table_calls (bd bc B : Nat) (cs : List (List (Nat × Nat))) (ds : List Nat) (n : Nat) (w : World) (hn : 1 ≤ n) (hn7 : n ≤ 1000) (hl : cs.length = ds.length) (hm : ds.length ≤ 1000) (hB : B ≤ w.heap.size) (hD : Blk w bd (nums ds) 3) (hC : ChoAt w B bc cs)
    (hin : ∀ d, d < ds.length → ds.getD d 0 < (cs.getD d []).length) (c32 : ∀ d, (cs.getD d []).length ≤ 1000) (fP fC : Nat → Nat) (hfP : ∀ d, fP d = ((cs.getD d []).getD (ds.getD d 0) (0, 0)).1) (hfC : ∀ d, fC d = ((cs.getD d []).getD (ds.getD d 0) (0, 0)).2) :
    Calls Try.prog 37 #[.slice (some ⟨bc, 0, none⟩) ds.length ds.length, .slice (some ⟨bd, 0, none⟩) ds.length ds.length, .int .i64 n] w fun e w' =>
      ∃ vP vC gP gC, e = .returned (.agg #[vP, vC]) ∧ Rows2 w' w.heap.size vP gP (rowsK fP n ds.length) n ∧ Rows2 w' w.heap.size vC gC (rowsK fC n ds.length) n ∧ Below w.heap.size w w' := by
  obtain ⟨i45, hi45, hz0, hz1, hz2⟩ := info_parts info45
  have hmk := fun wx => Go.run_make_row' (P := Try.prog) 45 3 (.int .i64 0) 8 Try.underlying45 info3 rfl .i64 .i64 n (by omega) (by omega) wx
  rw [mk_nums] at hmk
  obtain ⟨len, hlen⟩ : ∃ len, len = ds.length := ⟨_, rfl⟩
  rw [← hlen] at hl hm hin ⊢
  have HL := Lib.hid hlen
  have HC := Lib.hid hl
  have HFP := Lib.hid hfP
  have HFC := Lib.hid hfC
  have HIN := Lib.hid hin
  have HCC := Lib.hid hC
  clear hlen hl hfP hfC hin hC
  go_enter Try.func37, Try.ntmps37
  go_wp2_with fail
  go_loopw [13] (fun i wr => ∃ (k : Nat) (vP vC : Value) (gP gC : List Nat), k ≤ len ∧ i = .int .i64 k ∧ TI w wr n (rowsK fP n k) (rowsK fC n k) vP vC gP gC) (fun i _ => len - (intOf i).toNat)
  case atStart => exact ⟨0, _, _, _, _, by omega, rfl, TI.start w fP fC n hn⟩
  case round =>
    obtain ⟨k, vP, vC, gP, gC, hk, rfl, hT⟩ := hrel
    by_cases hlt : k < len
    · have hcell := (hT.below.cell (p := ⟨bd, k, none⟩) hD.lt).trans (hD.cell k (nums_get ds k (by rw [← HL.out]; exact hlt)))
      rw [getD_lt] at hcell
      obtain ⟨x, hxv⟩ : ∃ x, ds.getD k 0 = x := ⟨_, rfl⟩
      rw [hxv] at hcell
      have HX := Lib.hid hxv
      clear hxv
      have hml : (1001 : Nat) ≤ maxLen := by unfold maxLen; omega
      go_upto_if 21 with (fail)
      go_cut [] (fun wx => ∃ vP vC gP gC, TI w wx n (rowsA fP n k) (rowsA fC n k) vP vC gP gC)
      case first =>
        have hgP : gP.length ≤ 1000 := by rw [hT.p.len]; have := rowsK_length_le fP n k hn; omega
        have hgC : gC.length ≤ 1000 := by rw [hT.c.len]; have := rowsK_length_le fC n k hn; omega
        by_cases h0 : k % n = 0
        · have h0b : (((k : Int) % (n : Int)) == 0) = true := by rw [beq_iff_eq]; exact_mod_cast h0
          have eA : rowsA fP n k = rowsK fP n k ++ [List.replicate n 0] ∧ rowsA fC n k = rowsK fC n k ++ [List.replicate n 0] := by unfold rowsA; simp [h0]
          have HA := Lib.hid eA
          clear eA h0
          go_upto_region 6 with (fail)
          go_cut [] (fun wx => ∃ vP vC gP gC, gC.length ≤ 1000 ∧ TI w wx n (rowsK fP n k ++ [List.replicate n 0]) (rowsK fC n k) vP vC gP gC)
          case first =>
            have htP := hT.t.cell 0 (v := vP) rfl
            have hfP := hT.t.free 0
            have hs := hT.below.size
            have hbt : w.heap.size + 1 < wr.heap.size := hT.t.lt
            have z2 : ∀ (X Y : Obj) (o : Nat), ((wr.alloc X).alloc Y).frozen? ⟨w.heap.size + 1, o, none⟩ = false := fun X Y o => ((hT.t.alloc X).alloc Y).free o
            have zc : ∀ (X Y : Obj), ((wr.alloc X).alloc Y).cell? ⟨w.heap.size + 1, 0, none⟩ = some vP := fun X Y => ((hT.t.alloc X).alloc Y).cell 0 rfl
            have mP : gP.length + 1 ≤ maxLen := by omega
            have ownP := hT.p.own
            have aP : vP.ownBlock ≠ some (w.heap.size + 1) := own_ne ownP hT.t (by decide)
            have N1 := news_one (wr.alloc (.cells (nums (List.replicate n 0)).toArray 3)) (wr.heap.size + 1) (slv n wr.heap.size) 45 (by simp)
            have HN1 := Lib.hid N1
            clear N1
            go_region_law ((refine step_append_lies _ (by rfl) _ _ _ (by rfl) w.heap.size 45 i45 _ 1 24 Try.underlying22 hi45 hz0 hz1 hz2 rfl (by omega) vP gP.length (gP.map (slv n)) (by rfl) (((ownP.alloc _).alloc _).drew) ⟨wr.heap.size + 1, 0, none⟩ 1 1 [slv n wr.heap.size] (by rfl) (by rfl) HN1.out (by simp [Value.oneCell', slv]) (by omega) mP (by omega) (by simp; omega) (wr.heap.size + 2) (by simp) ?_; intro gg cap w1 hown1 hgrow hat hlt; have hc1 := hgrow.cell_far ⟨w.heap.size + 1, 0, none⟩ (by first | omega | (simp; omega)) (Ne.symm aP); simp only [World.cell?_drew, zc] at hc1; have hf1 := hgrow.frozen_far ⟨w.heap.size + 1, 0, none⟩ (by first | omega | (simp; omega)) (Ne.symm aP); simp only [World.frozen?_drew, z2] at hf1))
            all_goals (have hN := hT.growP hown1 hgrow hat; go_wp2_with fail; go_meet; exact ⟨_, _, _, _, hgC, hN⟩)
          case rest =>
            clear hT hgP hgC
            obtain ⟨wx, hwx⟩ : ∃ wx : World, wx = wc := ⟨_, rfl⟩
            subst hwx
            obtain ⟨vP, vC, gP, gC, hgC, hT⟩ := hcut
            go_wp2_with fail
            have htC := hT.t.cell 1 (v := vC) rfl
            have hfC := hT.t.free 1
            have hs := hT.below.size
            have hbt : w.heap.size + 1 < wx.heap.size := hT.t.lt
            have z2 : ∀ (X Y : Obj) (o : Nat), ((wx.alloc X).alloc Y).frozen? ⟨w.heap.size + 1, o, none⟩ = false := fun X Y o => ((hT.t.alloc X).alloc Y).free o
            have zc : ∀ (X Y : Obj), ((wx.alloc X).alloc Y).cell? ⟨w.heap.size + 1, 1, none⟩ = some vC := fun X Y => ((hT.t.alloc X).alloc Y).cell 1 rfl
            have mC : gC.length + 1 ≤ maxLen := by omega
            have ownC := hT.c.own
            have aC : vC.ownBlock ≠ some (w.heap.size + 1) := own_ne ownC hT.t (by decide)
            have N1 := news_one (wx.alloc (.cells (nums (List.replicate n 0)).toArray 3)) (wx.heap.size + 1) (slv n wx.heap.size) 45 (by simp)
            have HN1 := Lib.hid N1
            clear N1
            go_region_law ((refine step_append_lies _ (by rfl) _ _ _ (by rfl) w.heap.size 45 i45 _ 1 24 Try.underlying22 hi45 hz0 hz1 hz2 rfl (by omega) vC gC.length (gC.map (slv n)) (by rfl) (((ownC.alloc _).alloc _).drew) ⟨wx.heap.size + 1, 0, none⟩ 1 1 [slv n wx.heap.size] (by rfl) (by rfl) HN1.out (by simp [Value.oneCell', slv]) (by omega) mC (by omega) (by simp; omega) (wx.heap.size + 2) (by simp) ?_; intro gg cap w1 hown1 hgrow hat hlt; have hc1 := hgrow.cell_far ⟨w.heap.size + 1, 1, none⟩ (by first | omega | (simp; omega)) (Ne.symm aC); simp only [World.cell?_drew, zc] at hc1; have hf1 := hgrow.frozen_far ⟨w.heap.size + 1, 1, none⟩ (by first | omega | (simp; omega)) (Ne.symm aC); simp only [World.frozen?_drew, z2] at hf1))
            all_goals (have hN := hT.growC hown1 hgrow hat; go_wp2_with fail; go_meet; exact ⟨_, _, _, _, by rw [HA.out.1, HA.out.2]; exact hN⟩)
        · have h0b : (((k : Int) % (n : Int)) == 0) = false := by rw [beq_eq_false_iff_ne]; exact_mod_cast h0
          have eA : rowsA fP n k = rowsK fP n k ∧ rowsA fC n k = rowsK fC n k := by unfold rowsA; simp [h0]
          have HA := Lib.hid eA
          clear eA h0
          go_wp2
          go_meet
          exact ⟨_, _, _, _, by rw [HA.out.1, HA.out.2]; exact hT⟩
      case rest =>
        clear hT
        obtain ⟨wx, hwx⟩ : ∃ wx : World, wx = wc := ⟨_, rfl⟩
        subst hwx
        obtain ⟨vP, vC, gP, gC, hT⟩ := hcut
        have hdm := Nat.div_add_mod k n
        obtain ⟨r, hr⟩ : ∃ r, k / n = r := ⟨_, rfl⟩
        obtain ⟨m, hm2⟩ : ∃ m, k % n = m := ⟨_, rfl⟩
        have hrI : (k : Int) / (n : Int) = (r : Int) := by rw [← hr]; exact (Int.natCast_ediv k n).symm
        have hmI : (k : Int) % (n : Int) = (m : Int) := by rw [← hm2]; exact (Int.natCast_emod k n).symm
        have hmn : m < n := by rw [← hm2]; exact Nat.mod_lt _ (by omega)
        have hrk : r ≤ k := by rw [← hr]; exact Nat.div_le_self _ _
        have lP : gP.length = r + 1 := by rw [hT.p.len, rowsA_length fP n k hn, hr]
        have lC : gC.length = r + 1 := by rw [hT.c.len, rowsA_length fC n k hn, hr]
        obtain ⟨qP, capP, eP, cP⟩ := hT.p.cell (r := r) (by omega)
        obtain ⟨qC, capC, eC, cC⟩ := hT.c.cell (r := r) (by omega)
        obtain ⟨bP, nP, -⟩ := hT.p.blk r (by omega)
        obtain ⟨bC, nC, -⟩ := hT.c.blk r (by omega)
        have vP' := bP.cell m (nums_get _ m (by rw [nP]; exact hmn))
        have vC' := bC.cell m (nums_get _ m (by rw [nC]; exact hmn))
        have fP' := bP.free m
        have fC' := bC.free m
        have neT : gP.getD r 0 ≠ w.heap.size + 1 := blk_ne bP hT.t (by decide)
        have neT' : gC.getD r 0 ≠ w.heap.size + 1 := blk_ne bC hT.t (by decide)
        have nePQ : gP.getD r 0 ≠ qP := fun e => own_ne hT.p.own bP (by decide) (by rw [eP, e]; rfl)
        have neCQ : gC.getD r 0 ≠ qC := fun e => own_ne hT.c.own bC (by decide) (by rw [eC, e]; rfl)
        have nePC : gP.getD r 0 ≠ gC.getD r 0 := fun e => hT.sep (gP.getD r 0) (.inr (getD_mem (by omega))) (.inr (by rw [e]; exact getD_mem (by omega)))
        have neP1 : gP.getD r 0 ≠ qC := fun e => hT.sep (gP.getD r 0) (.inr (getD_mem (by omega))) (.inl (by rw [eC, e]; rfl))
        have neC1 : gC.getD r 0 ≠ qP := fun e => hT.sep (gC.getD r 0) (.inl (by rw [eP, e]; rfl)) (.inr (getD_mem (by omega)))
        have htP := hT.t.cell 0 (v := vP) rfl
        have htC := hT.t.cell 1 (v := vC) rfl
        have bsP := (hT.p.blk r (by omega)).2.2
        have bsC := (hT.c.blk r (by omega)).2.2
        obtain ⟨g, cap, hgB, hch, hpr⟩ := HCC.out.2 k (by rw [HC.out]; exact hlt)
        have hxin := HIN.out k hlt
        rw [HX.out] at hxin
        obtain ⟨hp1, hp2⟩ := hpr x hxin
        have hbc := HCC.out.1
        have hch' := (hT.below.cell (p := ⟨bc, k, none⟩) (by show bc < w.heap.size; omega)).trans hch
        have hp1' := (hT.below.cell (p := ⟨g, x * 2, none⟩) (by show g < w.heap.size; omega)).trans hp1
        have hp2' := (hT.below.cell (p := ⟨g, x * 2 + 1, none⟩) (by show g < w.heap.size; omega)).trans hp2
        have eFP := HFP.out k
        have eFC := HFC.out k
        rw [HX.out] at eFP eFC
        rw [← eFP] at hp1'
        rw [← eFC] at hp2'
        have hput := fun wy (hTy : TI w wy n (rowsA fP n k) (rowsA fC n k) vP vC gP gC) => ((hTy.putP (r := r) (x := fP k) (by omega) hmn).putC (r := r) (x := fC k) (by omega) hmn)
        have hput' := fun wy (hTy : TI w wy n (rowsA fP n k) (rowsA fC n k) vP vC gP gC) => ((hTy.putC (r := r) (x := fC k) (by omega) hmn).putP (r := r) (x := fP k) (by omega) hmn)
        have setP := rowsA_set fP n k hn
        have setC := rowsA_set fC n k hn
        rw [hr, hm2] at setP setC
        rw [setP, setC] at hput
        rw [setP, setC] at hput'
        have ylen := c32 k
        have lP2 := lP
        have lC2 := lC
        rw [eP] at htP
        rw [eC] at htC
        generalize hpe : gP.getD r 0 = p at *
        generalize hce : gC.getD r 0 = c at *
        generalize (cs.getD k []).length = y at *
        generalize ((rowsA fP n k).getD r [])[m]'_ = uP at vP'
        generalize ((rowsA fC n k).getD r [])[m]'_ = uC at vC'
        generalize fP k = zP at *
        generalize fC k = zC at *
        have HP1 := Lib.hid hput
        have HP2 := Lib.hid hput'
        have HT := Lib.hid hT
        generalize hLP : gP.length = LP at *
        generalize hLC : gC.length = LC at *
        have r1n : r < LP := by omega
        have r2n : r < LC := by omega
        clear hput hput' setP setC hT bP bC lP lC lP2 lC2 eFP eFC hr hm2 hdm hpe hce nP nC hch hp1 hp2 hLP hLC hpr
        go_wp2_with fail
        have r0 : (0 : Int) ≤ (r : Int) := by omega
        have r1 : (r : Int) < (LP : Int) := by omega
        have r2 : (r : Int) < (LC : Int) := by omega
        have m0 : (0 : Int) ≤ (m : Int) := by omega
        have m1 : (m : Int) < (n : Int) := by omega
        have x0 : (0 : Int) ≤ (x : Int) := by omega
        have x1 : (x : Int) < (y : Int) := by omega
        have k0 : (0 : Int) ≤ (k : Int) := by omega
        have k1 : (k : Int) < (len : Int) := by omega
        have n0 : ((n : Int) == 0) = false := by rw [beq_eq_false_iff_ne]; omega
        have n1 : ¬ ((n : Int) = 0) := by omega
        have n2 : ¬ (n = 0) := by omega
        have q1 : p ≠ bc := by omega
        have q2 : p ≠ g := by omega
        have q3 : c ≠ bc := by omega
        have q4 : c ≠ g := by omega
        have q5 : c ≠ p := fun e => nePC e.symm
        change wx.cell? ⟨qP, r, none⟩ = some (.slice (some ⟨p, 0, none⟩) n n) at cP
        change wx.cell? ⟨qC, r, none⟩ = some (.slice (some ⟨c, 0, none⟩) n n) at cC
        have tm : (k : Int).tmod (n : Int) = (m : Int) := by rw [Int.tmod_eq_emod_of_nonneg (by omega)]; exact hmI
        go_region_held3 (fun w' => w'.cell? ⟨w.heap.size + 1, 0, none⟩ = some (.slice (some ⟨qP, 0, none⟩) LP capP) ∧ w'.cell? ⟨w.heap.size + 1, 1, none⟩ = some (.slice (some ⟨qC, 0, none⟩) LC capC) ∧ w'.cell? ⟨qP, r, none⟩ = some (.slice (some ⟨p, 0, none⟩) n n) ∧ w'.cell? ⟨qC, r, none⟩ = some (.slice (some ⟨c, 0, none⟩) n n) ∧ w'.cell? ⟨bc, k, none⟩ = some (.slice (some ⟨g, 0, none⟩) y cap) ∧ w'.cell? ⟨g, x * 2, none⟩ = some (.int .i64 (zP : Nat)) ∧ w'.cell? ⟨g, x * 2 + 1, none⟩ = some (.int .i64 (zC : Nat))) (go_keep) (fail)
        go_wp2
        go_roundw
        case rel => exact ⟨k + 1, _, _, gP, gC, by omega, by go_num, (HP1.out _ HT.out).drew⟩
        case measure => simp [intOf]; omega
    · obtain rfl : k = len := by omega
      have hT' := Lib.hid hT
      obtain ⟨aP, cP, rfl⟩ := own_slice hT.p.own
      obtain ⟨aC, cC, rfl⟩ := own_slice hT.c.own
      have h1 := hT.t.cell 0 rfl
      have h2 := hT.t.cell 1 rfl
      have h3 := hT.res.cell 0 rfl
      have h4 := hT.res.cell 1 rfl
      have h5 := hT.res.free 0
      have h6 := hT.res.free 1
      clear hT
      go_wp2
      obtain ⟨e1, e2, e3⟩ := hT'.out.done (.slice aP gP.length cP) (.slice aC gC.length cC)
      have hr2 := (hT'.out.res.set 0 (.slice aP gP.length cP)).set 1 (.slice aC gC.length cC)
      have f0 := hr2.cell 0 (v := .slice aP gP.length cP) rfl
      have f1 := hr2.cell 1 (v := .slice aC gC.length cC) rfl
      exact bodyPost_ret (v := .agg #[.slice aP gP.length cP, .slice aC gC.length cC]) (by simp [results, Try.results37, go_sem, f0, f1]) rfl ⟨_, _, gP, gC, rfl, e1, e2, e3⟩

end Go.Proofs.Ytmoemalkojckaaa.J
