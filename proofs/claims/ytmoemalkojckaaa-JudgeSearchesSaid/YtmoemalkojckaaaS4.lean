import Derived.Test.YtmoemalkojckaaaProg
import Derived.Below
import Derived.Deep.Draws
import Derived.Deep.AppendLies
import Derived.OwnWalk
import Derived.Laws.MakeOwn
import Derived.Laws.OwnMore
import Derived.Deep.OwnRows
import Derived.Tactics
import Derived.Laws.Slices
import Derived.WalkKit
import Derived.KernelRfl
import Derived.RowKit3
import Derived.Deep.LoopGhost
import Derived.Deep.QuietTactic
import Derived.BigQuiet
import Derived.Deep.DeepCutAuto
import Derived.Deep.CutBlock
import Derived.Deep.RegionHeld3
import Derived.Laws.Rows
import Derived.Laws.BitsLemmas
import Derived.RowKit
import Derived.Lib.Hide
import Derived.WalkLawsBesides
import Derived.WalkSpells
import Derived.Deep.DeepFit
import Derived.Deep.RegionLaw
import Derived.BigRegion
import Derived.Test.YtmoemalkojckaaaS3
namespace Go.Proofs.Ytmoemalkojckaaa.J
open Go.RowKit
set_option linter.unusedVariables false
set_option linter.unusedSimpArgs false

theorem ty45 : (45 : TypeId) ≠ 41 := by decide
theorem ty3 : (3 : TypeId) ≠ 41 := by decide
theorem RT.start (w : World) (T : Int) (n : Nat) : RT w (((w.alloc (.cells #[.int .i64 0, .int .i64 0, .int .i64 0] 41)).alloc (.cells #[.int .i64 T, .int .i64 0, .int .i64 (-1)] 41)).alloc (.cells #[.slice none 0 0, .slice none 0 0] 28))
    (w.heap.size + 1 + 1) n [(w.heap.size + 1, [.int .i64 T, .int .i64 0, .int .i64 (-1)], 41), (w.heap.size, [.int .i64 0, .int .i64 0, .int .i64 0], 41)] (matF (fun _ => 0) n 0) (matF (fun _ => 0) n 0) (.slice none 0 0) (.slice none 0 0) [] [] := by
  have b0 := Blk.new w #[.int .i64 0, .int .i64 0, .int .i64 0] 41
  have b1 := Blk.new (w.alloc (.cells #[.int .i64 0, .int .i64 0, .int .i64 0] 41)) #[.int .i64 T, .int .i64 0, .int .i64 (-1)] 41
  have b2 := Blk.new ((w.alloc (.cells #[.int .i64 0, .int .i64 0, .int .i64 0] 41)).alloc (.cells #[.int .i64 T, .int .i64 0, .int .i64 (-1)] 41)) #[.slice none 0 0, .slice none 0 0] 28
  have e1 : (w.alloc (.cells #[.int .i64 0, .int .i64 0, .int .i64 0] 41)).heap.size = w.heap.size + 1 := by simp
  have e2 : ((w.alloc (.cells #[.int .i64 0, .int .i64 0, .int .i64 0] 41)).alloc (.cells #[.int .i64 T, .int .i64 0, .int .i64 (-1)] 41)).heap.size = w.heap.size + 1 + 1 := by simp
  rw [e1] at b1
  rw [e2] at b2
  refine ⟨b2, by omega, fun x hx => ?_, Rows2.nil _ _ _, Rows2.nil _ _ _, fun b h => ?_, (((Below.refl _ _).alloc (Nat.le_refl _) _).alloc (by simp) _).alloc (by simp; omega) _⟩
  · simp only [List.mem_cons, List.not_mem_nil, or_false] at hx
    rcases hx with rfl | rfl
    · exact ⟨b1.alloc _, by show w.heap.size + 1 ≠ _; omega, by show _ ≤ w.heap.size + 1; omega, ty45, ty3⟩
    · exact ⟨(b0.alloc _).alloc _, by show w.heap.size ≠ _; omega, Nat.le_refl _, ty45, ty3⟩
  · rcases h with h | h
    · simp [Value.ownBlock] at h
    · simp at h

theorem rpick_le (n R L : Nat) (ds : List Nat) (d : Nat) : (pickP (rchs n R L) ds d).1 ≤ 3 ∧ (pickP (rchs n R L) ds d).2 ≤ 7 := by
  unfold pickP
  by_cases h : d < n * R
  · have e : (rchs n R L).getD d [] = rprs (decide (d % n < L)) := by simp [rchs, List.getD, h]
    rw [e]
    by_cases h2 : ds.getD d 0 < (rprs (decide (d % n < L))).length
    · have : (rprs (decide (d % n < L))).getD (ds.getD d 0) (0, 0) = (rprs (decide (d % n < L)))[ds.getD d 0] := by rw [List.getD, List.getElem?_eq_getElem h2]; rfl
      rw [this]
      exact prs_mem _ _ ((rprs_perm _).mem_iff.1 (List.getElem_mem _))
    · have : (rprs (decide (d % n < L))).getD (ds.getD d 0) (0, 0) = (0, 0) := by
        rw [List.getD, List.getElem?_eq_none (by omega)]; rfl
      rw [this]; simp
  · have : (rchs n R L).getD d [] = [] := by rw [List.getD, List.getElem?_eq_none (by rw [rchs_length]; omega)]; rfl
    rw [this]; simp
theorem rvalid_of (n R L : Nat) (ds : List Nat) (hn : 1 ≤ n) (hn7 : n ≤ 7) (hR : 1 ≤ R) (hR3 : R ≤ 3) : JM.Valid n (preOf n (n * R) (rchs n R L) ds) (comOf n (n * R) (rchs n R L) ds) where
  len := by unfold preOf comOf; rw [rowsK_full_length _ _ _ hn, rowsK_full_length _ _ _ hn]
  pos := by unfold preOf; rw [rowsK_full_length _ _ _ hn]; exact hR
  le := by unfold preOf; rw [rowsK_full_length _ _ _ hn]; exact hR3
  n1 := hn
  n7 := hn7
  p := rowsK_mem _ _ _ _ (fun d => (rpick_le n R L ds d).1)
  c := rowsK_mem _ _ _ _ (fun d => (rpick_le n R L ds d).2)
theorem RT.fxsub {W wr : World} {bt n : Nat} {fx fx' : Fx} {rP rC : List (List Nat)} {vP vC : Value} {gP gC : List Nat} (h : RT W wr bt n fx rP rC vP vC gP gC) (hs : ∀ x ∈ fx', x ∈ fx) : RT W wr bt n fx' rP rC vP vC gP gC :=
  ⟨h.t, h.tb, fun x hx => h.fx x (hs x hx), h.p, h.c, h.sep, h.below⟩
def fxK (b bH : Nat) (T f l : Int) : Fx := [(b + 1, [.int .i64 T, .int .i64 f, .int .i64 l], 41), (b, [.int .i64 0, .int .i64 0, .int .i64 0], 41), (bH, [.int .i64 0, .int .i64 1, .int .i64 2, .int .i64 4], 74)]
theorem xAt_le (ls : List Nat) (k i : Nat) : xAt ls k i ≤ k := by
  induction i with
  | zero => exact Nat.le_refl _
  | succ i ih => exact Nat.le_trans (Nat.div_le_self _ _) ih

set_option maxHeartbeats 12800000 in
set_option maxRecDepth 100000 in
theorem rsearch_good (n R L : Nat) (w : World) (hn : 1 ≤ n) (hn7 : n ≤ 7) (hR : 1 ≤ R) (hR3 : R ≤ 3) (hL : L ≤ n) :
    Calls Try.prog 19 #[.int .i64 (n : Int), .int .i64 (R : Int), .int .i64 (L : Int)] w (SearchEnd n R L w) := by
  obtain ⟨i45, hi45, hz0, hz1, hz2⟩ := info_parts info45
  have hmk := fun wx => Go.run_make_row' (P := Try.prog) 45 3 (.int .i64 0) 8 Try.underlying45 info3 rfl .i64 .i64 n (by omega) (by omega) wx
  rw [mk_nums] at hmk
  have hN21 : n * R ≤ 21 := by have := Nat.mul_le_mul hn7 hR3; omega
  have hN1 : 1 ≤ n * R := Nat.mul_pos hn hR
  have HPS := Lib.hid (fun k => prodK_succ n R L k)
  have HPM := Lib.hid (fun i (h : i ≤ n * R) => prodK_mono n R L i (n * R) h)
  have hmul : (n : Int) * (R : Int) = ((n * R : Nat) : Int) := by simp
  obtain ⟨N, hN⟩ : ∃ N, n * R = N := ⟨_, rfl⟩
  rw [hN] at hN21 hN1 hmul
  have HN := Lib.hid hN
  clear hN
  unfold resV at *
  have d1 : decide ((n : Int) < 1) = false := decide_eq_false (by omega)
  have d2 : decide ((n : Int) > 7) = false := decide_eq_false (by omega)
  have d3 : decide ((R : Int) < 1) = false := decide_eq_false (by omega)
  have d4 : decide ((R : Int) > 3) = false := decide_eq_false (by omega)
  have d5 : decide ((L : Int) < 0) = false := decide_eq_false (by omega)
  have d6 : decide ((L : Int) > (n : Int)) = false := decide_eq_false (by omega)
  have d7 : decide (L > n) = false := decide_eq_false (by omega)
  have hbx := Blk.new w #[.int .i64 0, .int .i64 0, .int .i64 0] 41
  have HBX := Lib.hid hbx
  have f0 := hbx.cell 0 rfl
  have f1 := hbx.cell 1 rfl
  have f2 := hbx.cell 2 rfl
  clear hbx
  go_enter Try.func19, Try.ntmps19
  go_wp2_with fail
  go_loop [8, 9] (fun v8 i => ∃ d : Nat, d ≤ N ∧ i = .int .i64 d ∧ v8 = .int .i64 (prodK n R L d : Nat) ∧ prodK n R L d ≤ 1048576) (fun _ i => N - (intOf i).toNat)
  case atStart => exact ⟨0, by omega, rfl, by simp [prodK], by simp [prodK]⟩
  case round =>
    obtain ⟨d, hd, rfl, rfl, hp⟩ := hrel
    by_cases hlt : d < N
    · obtain ⟨b, hb⟩ : ∃ b, decide (d % n < L) = b := ⟨_, rfl⟩
      have hbI : decide ((d : Int) % (n : Int) < (L : Int)) = b := by
        rw [← hb, ← Int.natCast_emod]
        simp only [decide_eq_decide]
        omega
      have hps := HPS.out d
      rw [hb, prs32] at hps
      have hpm := HPM.out (d + 1) (by rw [HN.out]; omega)
      obtain ⟨p, hpd⟩ : ∃ p, prodK n R L d = p := ⟨_, rfl⟩
      rw [hpd] at hp hps ⊢
      clear hpd hb
      cases b with
      | true =>
        rw [if_pos rfl] at hps
        rw [hps] at hpm
        have HPS2 := Lib.hid hps
        clear hps
        by_cases hbig : 1048576 < p * 32
        · have HFULL := Lib.hid (show 1048576 < prodK n R L (n * R) by omega)
          clear hpm
          go_wp2
          exact bodyPost_ret (v := .tuple #[.agg #[.int .i64 0, .int .i64 0, .int .i64 0], .int .i64 5]) (by simp [results, Try.results19, go_sem, f0, f1, f2]) rfl ⟨by rw [if_pos HFULL.out]; rfl, (Below.refl _ _).alloc (Nat.le_refl _) _⟩
        · clear hpm
          go_wp2
          go_round
          case rel => exact ⟨d + 1, by omega, by go_num, by rw [HPS2.out]; go_num, by rw [HPS2.out]; omega⟩
          case measure => simp [intOf]; omega
      | false =>
        rw [if_neg (by simp)] at hps
        rw [hps] at hpm
        have HPS2 := Lib.hid hps
        clear hps
        by_cases hbig : 1048576 < p * 12
        · have HFULL := Lib.hid (show 1048576 < prodK n R L (n * R) by omega)
          clear hpm
          go_wp2
          exact bodyPost_ret (v := .tuple #[.agg #[.int .i64 0, .int .i64 0, .int .i64 0], .int .i64 5]) (by simp [results, Try.results19, go_sem, f0, f1, f2]) rfl ⟨by rw [if_pos HFULL.out]; rfl, (Below.refl _ _).alloc (Nat.le_refl _) _⟩
        · clear hpm
          go_wp2
          go_round
          case rel => exact ⟨d + 1, by omega, by go_num, by rw [HPS2.out]; go_num, by rw [HPS2.out]; omega⟩
          case measure => simp [intOf]; omega
    · obtain rfl : N = d := by omega
      obtain ⟨T, hTd⟩ : ∃ T, prodK n R L N = T := ⟨_, rfl⟩
      rw [hTd] at hp ⊢
      have HTD := Lib.hid hTd
      clear hTd
      go_wp2_with fail
      have HS0 := Lib.hid (RT.start w (T : Int) n)
      have hbtw : w.heap.size ≤ w.heap.size + 1 + 1 := by omega
      obtain ⟨bt, hbt⟩ : ∃ b, w.heap.size + 1 + 1 = b := ⟨_, rfl⟩
      rw [hbt] at HS0 hbtw ⊢
      have HBT := Lib.hid hbt
      clear hbt
      obtain ⟨fx0, hfx⟩ : ∃ fx : Fx, [(w.heap.size + 1, [Value.int .i64 (T : Int), .int .i64 0, .int .i64 (-1)], 41), (w.heap.size, [Value.int .i64 0, .int .i64 0, .int .i64 0], 41)] = fx := ⟨_, rfl⟩
      rw [hfx] at HS0
      have HFX := Lib.hid hfx
      clear hfx f0 f1 f2
      go_loopw [12] (fun i wr => ∃ (k : Nat) (vP vC : Value) (gP gC : List Nat), k ≤ R ∧ i = .int .i64 k ∧ RT w wr bt n fx0 (matF (fun _ => 0) n k) (matF (fun _ => 0) n k) vP vC gP gC) (fun i _ => R - (intOf i).toNat)
      case atStart => exact ⟨0, _, _, _, _, by omega, rfl, HS0.out⟩
      case round =>
        clear HS0
        obtain ⟨k, vP, vC, gP, gC, hk, rfl, hT⟩ := hrel
        by_cases hlt : k < R
        · have hml : (1001 : Nat) ≤ maxLen := by unfold maxLen; omega
          have hgP : gP.length ≤ 1000 := by rw [hT.p.len, matF_length]; omega
          have hgC : gC.length ≤ 1000 := by rw [hT.c.len, matF_length]; omega
          have HSN := Lib.hid (matF_snoc n k)
          go_upto_region 17 with (fail)
          go_cut [] (fun wx => ∃ vP vC gP gC, gC.length ≤ 1000 ∧ RT w wx bt n fx0 (matF (fun _ => 0) n k ++ [List.replicate n 0]) (matF (fun _ => 0) n k) vP vC gP gC)
          case first =>
            have htP := hT.t.cell 0 (v := vP) rfl
            have hfP := hT.t.free 0
            have hs := hT.below.size
            have hbt : bt < wr.heap.size := hT.t.lt
            have z2 : ∀ (X Y : Obj) (o : Nat), ((wr.alloc X).alloc Y).frozen? ⟨bt, o, none⟩ = false := fun X Y o => ((hT.t.alloc X).alloc Y).free o
            have zc : ∀ (X Y : Obj), ((wr.alloc X).alloc Y).cell? ⟨bt, 0, none⟩ = some vP := fun X Y => ((hT.t.alloc X).alloc Y).cell 0 rfl
            have mP : gP.length + 1 ≤ maxLen := by omega
            have ownP := hT.p.own
            have aP : vP.ownBlock ≠ some bt := own_ne ownP hT.t (by decide)
            have N1 := news_one (wr.alloc (.cells (nums (List.replicate n 0)).toArray 3)) (wr.heap.size + 1) (slv n wr.heap.size) 45 (by simp)
            have HN1 := Lib.hid N1
            clear N1
            go_region_law ((refine step_append_lies _ (by rfl) _ _ _ (by rfl) w.heap.size 45 i45 _ 1 24 Try.underlying22 hi45 hz0 hz1 hz2 rfl (by omega) vP gP.length (gP.map (slv n)) (by rfl) (((ownP.alloc _).alloc _).drew) ⟨wr.heap.size + 1, 0, none⟩ 1 1 [slv n wr.heap.size] (by rfl) (by rfl) HN1.out (by simp [Value.oneCell', slv]) (by omega) mP (by omega) (by simp; omega) (wr.heap.size + 2) (by simp) ?_; intro gg cap w1 hown1 hgrow hat hlt; have hc1 := hgrow.cell_far ⟨bt, 0, none⟩ (by first | omega | (simp; omega)) (Ne.symm aP); simp only [World.cell?_drew, zc] at hc1; have hf1 := hgrow.frozen_far ⟨bt, 0, none⟩ (by first | omega | (simp; omega)) (Ne.symm aP); simp only [World.frozen?_drew, z2] at hf1))
            all_goals (have hN := hT.growP hown1 hgrow hat; go_wp2_with fail; go_meet; exact ⟨_, _, _, _, hgC, hN⟩)
          case rest =>
            clear hT hgP hgC
            obtain ⟨wx, hwx⟩ : ∃ wx : World, wx = wc := ⟨_, rfl⟩
            subst hwx
            obtain ⟨vP, vC, gP, gC, hgC, hT⟩ := hcut
            go_wp2_with fail
            have htC := hT.t.cell 1 (v := vC) rfl
            have hfC := hT.t.free 1
            have hs := hT.below.size
            have hbt : bt < wx.heap.size := hT.t.lt
            have z2 : ∀ (X Y : Obj) (o : Nat), ((wx.alloc X).alloc Y).frozen? ⟨bt, o, none⟩ = false := fun X Y o => ((hT.t.alloc X).alloc Y).free o
            have zc : ∀ (X Y : Obj), ((wx.alloc X).alloc Y).cell? ⟨bt, 1, none⟩ = some vC := fun X Y => ((hT.t.alloc X).alloc Y).cell 1 rfl
            have mC : gC.length + 1 ≤ maxLen := by omega
            have ownC := hT.c.own
            have aC : vC.ownBlock ≠ some bt := own_ne ownC hT.t (by decide)
            have N1 := news_one (wx.alloc (.cells (nums (List.replicate n 0)).toArray 3)) (wx.heap.size + 1) (slv n wx.heap.size) 45 (by simp)
            have HN1 := Lib.hid N1
            clear N1
            go_region_law ((refine step_append_lies _ (by rfl) _ _ _ (by rfl) w.heap.size 45 i45 _ 1 24 Try.underlying22 hi45 hz0 hz1 hz2 rfl (by omega) vC gC.length (gC.map (slv n)) (by rfl) (((ownC.alloc _).alloc _).drew) ⟨wx.heap.size + 1, 0, none⟩ 1 1 [slv n wx.heap.size] (by rfl) (by rfl) HN1.out (by simp [Value.oneCell', slv]) (by omega) mC (by omega) (by simp; omega) (wx.heap.size + 2) (by simp) ?_; intro gg cap w1 hown1 hgrow hat hlt; have hc1 := hgrow.cell_far ⟨bt, 1, none⟩ (by first | omega | (simp; omega)) (Ne.symm aC); simp only [World.cell?_drew, zc] at hc1; have hf1 := hgrow.frozen_far ⟨bt, 1, none⟩ (by first | omega | (simp; omega)) (Ne.symm aC); simp only [World.frozen?_drew, z2] at hf1))
            all_goals
              have hN := Lib.hid (hT.growC hown1 hgrow hat)
              clear hT hown1 hgrow hat htC hfC z2 zc ownC aC HN1 hc1 hf1
              go_wp2
              go_roundw
              case rel => exact ⟨k + 1, _, _, _, _, by omega, by go_num, by rw [HSN.out]; exact hN.out⟩
              case measure => simp [intOf]; omega
        · obtain rfl : R = k := by omega
          have HT := Lib.hid hT
          clear hT
          go_wp2_with fail
          have HT0 := Lib.hid (((HT.out.addF [.int .i64 0, .int .i64 1, .int .i64 2, .int .i64 4] 74 (by decide) (by decide)).fxsub (fx' := fxK w.heap.size wr.heap.size (T : Int) 0 (-1)) (fun x hx => by
            rw [← HFX.out]
            simp only [fxK, List.mem_cons, List.not_mem_nil, or_false] at hx ⊢
            rcases hx with rfl | rfl | rfl
            · exact .inr (.inl rfl)
            · exact .inr (.inr rfl)
            · exact .inl rfl)))
          have hbHlt : w.heap.size ≤ wr.heap.size := HT.out.below.size
          obtain ⟨bH, hbH⟩ : ∃ b, wr.heap.size = b := ⟨_, rfl⟩
          rw [hbH] at HT0 hbHlt ⊢
          clear hbH HT HFX hmk
          have HV := Lib.hid (fun ds => rvalid_of n R L ds hn hn7 hR hR3)
          have HPK := Lib.hid (fun k i h => rpick n R L k i h)
          have HLN := Lib.hid (fun i h => rlen n R L i h)
          have HXL := Lib.hid (fun k i => xAt_le (lens (rchs n R L)) k i)
          have HSS := Lib.hid (fun k => seek_succ n (n * R) (rchs n R L) (lens (rchs n R L)) k)
          have HSL := Lib.hid (fun k => seek_le n (n * R) (rchs n R L) (lens (rchs n R L)) k)
          go_loopw [14] (fun i wr => ∃ (k f : Nat) (l : Int) (uP uC : Nat → Nat) (vP vC : Value) (gP gC : List Nat), k ≤ T ∧ i = .int .i64 k ∧ RT w wr bt n (fxK w.heap.size bH (T : Int) (f : Int) l) (matF uP n R) (matF uC n R) vP vC gP gC ∧ Hid (seek n (n * R) (rchs n R L) (lens (rchs n R L)) k = (f, l))) (fun i _ => T - (intOf i).toNat)
          case atStart => exact ⟨0, 0, -1, _, _, _, _, _, _, by omega, rfl, HT0.out, rfl⟩
          case round =>
            clear HT0 vP vC gP gC
            obtain ⟨k, f, l, uP, uC, vP, vC, gP, gC, hk, rfl, hT, hseek⟩ := hrel
            by_cases hlt : k < T
            · have hkd : decide ((k : Int) < (T : Int)) = true := decide_eq_true (by omega)
              have HT := Lib.hid hT
              clear hT
              go_wp2_with fail
              go_loopw [15, 16] (fun v15 i wx => ∃ (d : Nat) (uP uC : Nat → Nat), d ≤ N ∧ i = .int .i64 d ∧ v15 = .int .i64 (xAt (lens (rchs n R L)) k d : Nat) ∧ RT w wx bt n (fxK w.heap.size bH (T : Int) (f : Int) l) (matF uP n R) (matF uC n R) vP vC gP gC ∧
                Hid (∀ j, j < d → uP j = (pickP (rchs n R L) (digs (lens (rchs n R L)) k) j).1 ∧ uC j = (pickP (rchs n R L) (digs (lens (rchs n R L)) k) j).2)) (fun _ i _ => N - (intOf i).toNat)
              case atStart => exact ⟨0, uP, uC, by omega, rfl, rfl, HT.out, fun j hj => by omega⟩
              case round =>
                clear HT uP uC
                obtain ⟨wx, h⟩ : ∃ wz : World, wz = wr := ⟨_, rfl⟩
                subst h
                obtain ⟨d, uP, uC, hd, rfl, rfl, hT, hU⟩ := hrel
                by_cases hdN : d < N
                · have hdd : decide ((d : Int) < (N : Int)) = true := decide_eq_true (by omega)
                  have hdm := Nat.div_add_mod d n
                  obtain ⟨r, hr⟩ : ∃ r, d / n = r := ⟨_, rfl⟩
                  obtain ⟨m, hm2⟩ : ∃ m, d % n = m := ⟨_, rfl⟩
                  have hrI : (d : Int) / (n : Int) = (r : Int) := by rw [← hr]; exact (Int.natCast_ediv d n).symm
                  have hmI : (d : Int) % (n : Int) = (m : Int) := by rw [← hm2]; exact (Int.natCast_emod d n).symm
                  have hmn : m < n := by rw [← hm2]; exact Nat.mod_lt _ (by omega)
                  have hrR : r < R := by
                    rw [← hr]
                    exact (Nat.div_lt_iff_lt_mul (by omega)).2 (by rw [Nat.mul_comm R n, HN.out]; exact hdN)
                  rw [hr, hm2] at hdm
                  have hslot : r * n + m = d := by rw [Nat.mul_comm]; exact hdm
                  have hpick := HPK.out k d (by rw [HN.out]; exact hdN)
                  have hlen := HLN.out d (by rw [HN.out]; exact hdN)
                  rw [hm2] at hpick hlen
                  have hxk := HXL.out k d
                  have hxs : xAt (lens (rchs n R L)) k (d + 1) = xAt (lens (rchs n R L)) k d / (lens (rchs n R L)).getD d 0 := rfl
                  rw [hlen] at hxs
                  obtain ⟨x, hx⟩ : ∃ x, xAt (lens (rchs n R L)) k d = x := ⟨_, rfl⟩
                  rw [hx] at hpick hxk hxs ⊢
                  have hx20 : x ≤ 1048576 := by omega
                  clear hx hlen hxk
                  have lP : gP.length = R := by rw [hT.p.len, matF_length]
                  have lC : gC.length = R := by rw [hT.c.len, matF_length]
                  obtain ⟨qP, capP, eP, cP⟩ := hT.p.cell (r := r) (by omega)
                  obtain ⟨qC, capC, eC, cC⟩ := hT.c.cell (r := r) (by omega)
                  obtain ⟨bP, nP, bsP⟩ := hT.p.blk r (by omega)
                  obtain ⟨bC, nC, bsC⟩ := hT.c.blk r (by omega)
                  have vP' := bP.cell m (nums_get _ m (by rw [nP]; exact hmn))
                  have vC' := bC.cell m (nums_get _ m (by rw [nC]; exact hmn))
                  have fP' := bP.free m
                  have fC' := bC.free m
                  have neT : gP.getD r 0 ≠ bt := blk_ne bP hT.t (by decide)
                  have neT' : gC.getD r 0 ≠ bt := blk_ne bC hT.t (by decide)
                  have hH : Blk wx bH [.int .i64 0, .int .i64 1, .int .i64 2, .int .i64 4] 74 := (hT.fx (bH, [.int .i64 0, .int .i64 1, .int .i64 2, .int .i64 4], 74) (by simp [fxK])).1
                  have neH : gP.getD r 0 ≠ bH := blk_ne bP hH (by decide)
                  have neH' : gC.getD r 0 ≠ bH := blk_ne bC hH (by decide)
                  have nePQ : gP.getD r 0 ≠ qP := fun e => own_ne hT.p.own bP (by decide) (by rw [eP, e]; rfl)
                  have neCQ : gC.getD r 0 ≠ qC := fun e => own_ne hT.c.own bC (by decide) (by rw [eC, e]; rfl)
                  have nePC : gP.getD r 0 ≠ gC.getD r 0 := fun e => hT.sep (gP.getD r 0) (.inr (getD_mem (by omega))) (.inr (by rw [e]; exact getD_mem (by omega)))
                  have neP1 : gP.getD r 0 ≠ qC := fun e => hT.sep (gP.getD r 0) (.inr (getD_mem (by omega))) (.inl (by rw [eC, e]; rfl))
                  have neC1 : gC.getD r 0 ≠ qP := fun e => hT.sep (gC.getD r 0) (.inl (by rw [eP, e]; rfl)) (.inr (getD_mem (by omega)))
                  have htP := hT.t.cell 0 (v := vP) rfl
                  have htC := hT.t.cell 1 (v := vC) rfl
                  obtain ⟨zP, hzP⟩ : ∃ z, (pickP (rchs n R L) (digs (lens (rchs n R L)) k) d).1 = z := ⟨_, rfl⟩
                  obtain ⟨zC, hzC⟩ : ∃ z, (pickP (rchs n R L) (digs (lens (rchs n R L)) k) d).2 = z := ⟨_, rfl⟩
                  have hput := (hT.putP (r := r) (m := m) (x := zP) (by omega) hmn).putC (r := r) (m := m) (x := zC) (by omega) hmn
                  rw [matF_set uP n R r m zP hrR hmn, matF_set uC n R r m zC hrR hmn, hslot] at hput
                  have hnew : ∀ j, j < d + 1 → (if j = d then zP else uP j) = (pickP (rchs n R L) (digs (lens (rchs n R L)) k) j).1 ∧ (if j = d then zC else uC j) = (pickP (rchs n R L) (digs (lens (rchs n R L)) k) j).2 := by
                    intro j hj
                    by_cases e : j = d
                    · subst e
                      rw [if_pos rfl, if_pos rfl]
                      exact ⟨hzP.symm, hzC.symm⟩
                    · rw [if_neg e, if_neg e]
                      exact hU.out j (by omega)
                  rw [hpick] at hzP hzC
                  rw [eP] at htP
                  rw [eC] at htC
                  rw [lP] at htP
                  rw [lC] at htC
                  generalize hpe : gP.getD r 0 = p at *
                  generalize hce : gC.getD r 0 = c at *
                  generalize ((matF uP n R).getD r [])[m]'_ = oP at vP'
                  generalize ((matF uC n R).getD r [])[m]'_ = oC at vC'
                  have HPUT := Lib.hid hput
                  have HNEW := Lib.hid hnew
                  have HH := Lib.hid hH
                  change wx.cell? ⟨qP, r, none⟩ = some (.slice (some ⟨p, 0, none⟩) n n) at cP
                  change wx.cell? ⟨qC, r, none⟩ = some (.slice (some ⟨c, 0, none⟩) n n) at cC
                  have n0 : ((n : Int) == 0) = false := by rw [beq_eq_false_iff_ne]; omega
                  have n1 : ¬ ((n : Int) = 0) := by omega
                  have n2 : ¬ (n = 0) := by omega
                  have tm : (d : Int).tmod (n : Int) = (m : Int) := by rw [Int.tmod_eq_emod_of_nonneg (by omega)]; exact hmI
                  have td : (d : Int).tdiv (n : Int) = (r : Int) := by rw [Int.tdiv_eq_ediv_of_nonneg (by omega)]; exact hrI
                  obtain ⟨b, hb⟩ : ∃ b, decide (m < L) = b := ⟨_, rfl⟩
                  have hbI : decide ((m : Int) < (L : Int)) = b := by
                    rw [← hb]
                    simp only [decide_eq_decide]
                    omega
                  rw [hb] at hxs hzP hzC
                  have r0 : (0 : Int) ≤ (r : Int) := by omega
                  have r1 : (r : Int) < (R : Int) := by omega
                  have m0 : (0 : Int) ≤ (m : Int) := by omega
                  have m1 : (m : Int) < (n : Int) := by omega
                  have x0 : (0 : Int) ≤ (x : Int) := by omega
                  have q5 : c ≠ p := fun e => nePC e.symm
                  clear hput hnew hH hT bP bC nP nC lP lC hr hm2 hdm hslot hpe hce hb hpick eP eC hU
                  cases b with
                  | true =>
                    have hbn : m < L := by have := of_decide_eq_true hbI; omega
                    have e4 : x % 4 = zP := hzP
                    have e8 : x / 4 % 8 = zC := hzC
                    have e32 : xAt (lens (rchs n R L)) k (d + 1) = x / 32 := hxs
                    obtain ⟨y, hy⟩ : ∃ y, x / 4 = y := ⟨_, rfl⟩
                    rw [hy] at e8
                    have t1 : (x : Int).tmod 4 = (zP : Int) := by rw [Int.tmod_eq_emod_of_nonneg (by omega)]; omega
                    have t2 : (x : Int).tdiv 4 = (y : Int) := by rw [Int.tdiv_eq_ediv_of_nonneg (by omega)]; omega
                    have t3 : (y : Int).tmod 8 = (zC : Int) := by rw [Int.tmod_eq_emod_of_nonneg (by omega)]; omega
                    have s1 : (x : Int) % 4 = (zP : Int) := by omega
                    have s2 : (x : Int) / 4 = (y : Int) := by omega
                    have s3 : (y : Int) % 8 = (zC : Int) := by omega
                    have HE := Lib.hid e32
                    clear e4 e8 hy e32 hxs hzP hzC
                    go_wp2_with fail
                    go_region
                    go_wp2_with fail
                    go_region_held3 (fun w' => w'.cell? ⟨bt, 0, none⟩ = some (.slice (some ⟨qP, 0, none⟩) R capP) ∧ w'.cell? ⟨bt, 1, none⟩ = some (.slice (some ⟨qC, 0, none⟩) R capC) ∧ w'.cell? ⟨qP, r, none⟩ = some (.slice (some ⟨p, 0, none⟩) n n) ∧ w'.cell? ⟨qC, r, none⟩ = some (.slice (some ⟨c, 0, none⟩) n n)) (go_keep) (fail)
                    go_wp2
                    go_roundw
                    case rel => exact ⟨d + 1, _, _, by omega, by go_num, by rw [HE.out]; go_num, HPUT.out.drew.drew, HNEW.out⟩
                    case measure => simp [intOf]; omega
                  | false =>
                    have hbn : ¬ m < L := by have := of_decide_eq_false hbI; omega
                    have eP' : honL.getD (x % 3) 0 = zP := hzP
                    have eC' : honL.getD (x / 3 % 4) 0 = zC := hzC
                    have e12 : xAt (lens (rchs n R L)) k (d + 1) = x / 12 := hxs
                    obtain ⟨y, hy⟩ : ∃ y, x / 3 = y := ⟨_, rfl⟩
                    rw [hy] at eC'
                    obtain ⟨a, ha⟩ : ∃ a, x % 3 = a := ⟨_, rfl⟩
                    obtain ⟨a2, ha2⟩ : ∃ a, y % 4 = a := ⟨_, rfl⟩
                    rw [ha] at eP'
                    rw [ha2] at eC'
                    have a4 : a < 4 := by omega
                    have a4' : a2 < 4 := by omega
                    have hcellH : ∀ z v, z < 4 → honL.getD z 0 = v → wx.cell? ⟨bH, z, none⟩ = some (.int .i64 (v : Int)) := by
                      intro z v hz hv
                      subst hv
                      have : z = 0 ∨ z = 1 ∨ z = 2 ∨ z = 3 := by omega
                      rcases this with rfl | rfl | rfl | rfl <;> exact HH.out.cell _ rfl
                    have hcH1 := hcellH a zP a4 eP'
                    have hcH2 := hcellH a2 zC a4' eC'
                    have t1 : (x : Int).tmod 3 = (a : Int) := by rw [Int.tmod_eq_emod_of_nonneg (by omega)]; omega
                    have t2 : (x : Int).tdiv 3 = (y : Int) := by rw [Int.tdiv_eq_ediv_of_nonneg (by omega)]; omega
                    have t3 : (y : Int).tmod 4 = (a2 : Int) := by rw [Int.tmod_eq_emod_of_nonneg (by omega)]; omega
                    have s1 : (x : Int) % 3 = (a : Int) := by omega
                    have s2 : (x : Int) / 3 = (y : Int) := by omega
                    have s3 : (y : Int) % 4 = (a2 : Int) := by omega
                    have g0 : (0 : Int) ≤ (a : Int) := by omega
                    have g1 : (a : Int) < 4 := by omega
                    have g2 : (0 : Int) ≤ (a2 : Int) := by omega
                    have g3 : (a2 : Int) < 4 := by omega
                    have g4 : ((x : Int).tdiv 3).tmod 4 = (a2 : Int) := by rw [t2]; exact t3
                    have g5 : ((x : Int) / 3) % 4 = (a2 : Int) := by rw [s2]; exact s3
                    have g6 : ((x : Int) / 3).tmod 4 = (a2 : Int) := by rw [s2]; exact t3
                    have g7 : IntKind.i64.wrap (y : Int) = (y : Int) := by rw [IntKind.wrap_i64]; omega
                    have HE := Lib.hid e12
                    clear eP' eC' hy e12 hxs hzP hzC ha ha2 hcellH
                    go_wp2_with fail
                    go_region
                    go_wp2_with fail
                    go_region_held3 (fun w' => w'.cell? ⟨bt, 0, none⟩ = some (.slice (some ⟨qP, 0, none⟩) R capP) ∧ w'.cell? ⟨bt, 1, none⟩ = some (.slice (some ⟨qC, 0, none⟩) R capC) ∧ w'.cell? ⟨qP, r, none⟩ = some (.slice (some ⟨p, 0, none⟩) n n) ∧ w'.cell? ⟨qC, r, none⟩ = some (.slice (some ⟨c, 0, none⟩) n n) ∧ w'.cell? ⟨bH, a, none⟩ = some (.int .i64 (zP : Int)) ∧ w'.cell? ⟨bH, a2, none⟩ = some (.int .i64 (zC : Int))) (go_keep) (fail)
                    go_wp2
                    go_roundw
                    case rel => exact ⟨d + 1, _, _, by omega, by go_num, by rw [HE.out]; go_num, HPUT.out.drew.drew, HNEW.out⟩
                    case measure => simp [intOf]; omega
                · obtain rfl : N = d := by omega
                  have hdd : decide ((N : Int) < (N : Int)) = false := by simp
                  have eP := matF_full uP (fun d => (pickP (rchs n R L) (digs (lens (rchs n R L)) k) d).1) n R hn (fun d hd => (hU.out d (by rw [← HN.out]; exact hd)).1)
                  have eC := matF_full uC (fun d => (pickP (rchs n R L) (digs (lens (rchs n R L)) k) d).2) n R hn (fun d hd => (hU.out d (by rw [← HN.out]; exact hd)).2)
                  have hv := HV.out (digs (lens (rchs n R L)) k)
                  have hss := HSS.out k
                  have hsl := HSL.out k
                  rw [hseek.out] at hss hsl
                  have hf1 : f ≤ k := hsl.1
                  have hl1 : -1 ≤ l := hsl.2.1
                  have hl2 : l ≤ n := hsl.2.2
                  unfold forkAt confAt forkB at hss
                  have dP : rowsK (fun d => (pickP (rchs n R L) (digs (lens (rchs n R L)) k) d).1) n (n * R) = preOf n (n * R) (rchs n R L) (digs (lens (rchs n R L)) k) := rfl
                  have dC : rowsK (fun d => (pickP (rchs n R L) (digs (lens (rchs n R L)) k) d).2) n (n * R) = comOf n (n * R) (rchs n R L) (digs (lens (rchs n R L)) k) := rfl
                  rw [dP] at eP
                  rw [dC] at eC
                  have lP0 : (matF uP n R).length = R := matF_length _ _ _
                  have lC0 : (matF uC n R).length = R := matF_length _ _ _
                  rw [← eP, ← eC] at hv hss
                  obtain ⟨P, hPe⟩ : ∃ P, matF uP n R = P := ⟨_, rfl⟩
                  obtain ⟨C, hCe⟩ : ∃ C, matF uC n R = C := ⟨_, rfl⟩
                  rw [hPe] at hT hv hss lP0
                  rw [hCe] at hT hv hss lC0
                  have HPe := Lib.hid hPe
                  have HCe := Lib.hid hCe
                  clear eP eC dP dC hU hsl hPe hCe
                  have HDEC := Lib.hid (fun A0 A1 c0 c1 wy (hy : Tab wy A0 A1 (itab P) (itab C)) => rdecidable_calls P C n hv A0 A1 c0 c1 wy hy (validB_of hv))
                  have HCON := Lib.hid (fun A0 A1 c0 c1 wy (hy : Tab wy A0 A1 (itab P) (itab C)) => rconflicted_calls P C n hv A0 A1 c0 c1 wy hy (validB_of hv))
                  rw [lP0, lC0] at HDEC HCON
                  have hcn := nconf_mask hv
                  have hmk2 : maskOf 7 (JM.conf P C) < 1024 := Nat.lt_of_lt_of_le (maskOf_lt 7 _) (by decide)
                  have HSZ := Lib.hid (fun wy => rsize_calls (maskOf 7 (JM.conf P C)) hmk2 wy)
                  rw [hcn] at HSZ
                  have hnc : JM.nconf n P C ≤ n := Nat.le_trans List.countP_le_length (by simp)
                  have hTB : ∀ wy, Below wx.heap.size wx wy → ∃ A0 c0 A1 c1, vP = .slice A0 R c0 ∧ vC = .slice A1 R c1 := fun wy _ => by
                    obtain ⟨A0, c0, e0, _⟩ := hT.p.tab (by rw [lP0]; omega)
                    obtain ⟨A1, c1, e1, _⟩ := hT.c.tab (by rw [lC0]; omega)
                    rw [lP0] at e0
                    rw [lC0] at e1
                    exact ⟨A0, c0, A1, c1, e0, e1⟩
                  obtain ⟨A0, c0, A1, c1, rfl, rfl⟩ := hTB wx (Below.refl _ _)
                  have hTab : Tab wx A0 A1 (itab P) (itab C) := by
                    obtain ⟨B0, d0, e0, t0, b0⟩ := hT.p.tab (by rw [lP0]; omega)
                    obtain ⟨B1, d1, e1, t1, b1⟩ := hT.c.tab (by rw [lC0]; omega)
                    injection e0 with e0
                    injection e1 with e1
                    subst e0 e1
                    refine ⟨t0, t1, ?_, ?_, fun r => ?_, fun r => ?_⟩
                    · rw [itab_length]; omega
                    · rw [itab_length]; omega
                    · have := b0 r; omega
                    · have := b1 r; omega
                  have HTAB := Lib.hid hTab
                  obtain ⟨a, ha⟩ : ∃ a, (JM.decT n P C).1 = a := ⟨_, rfl⟩
                  obtain ⟨b, hb⟩ : ∃ b, (JM.decT n P C).2 = b := ⟨_, rfl⟩
                  rw [ha, hb] at HDEC hss
                  obtain ⟨cc, hcc⟩ : ∃ c, JM.nconf n P C = c := ⟨_, rfl⟩
                  rw [hcc] at hss HSZ hnc
                  obtain ⟨mm, hmm⟩ : ∃ c, maskOf 7 (JM.conf P C) = c := ⟨_, rfl⟩
                  rw [hmm] at HCON HSZ
                  have x0 := hT.t.cell 0 rfl
                  have x1 := hT.t.cell 1 rfl
                  have HT := Lib.hid hT
                  have HSN := Lib.hid hss
                  have HLP := Lib.hid lP0
                  have HLC := Lib.hid lC0
                  clear hTB hTab hT hv hss lP0 lC0 hcn hmk2 ha hb hcc hmm
                  go_wp2_with fail
                  refine (HDEC.out _ _ _ _ _ HTAB.out).mono ?_
                  rintro e w5 ⟨rfl, hb5⟩
                  have HT5 := Lib.hid (HT.out.keep hb5)
                  have HTAB5 := Lib.hid (HTAB.out.below hb5)
                  clear hb5 x0 x1 HT HTAB
                  cases a with
                  | false =>
                    have hs2 : seek n (n * R) (rchs n R L) (lens (rchs n R L)) (k + 1) = (f, l) := HSN.out
                    have HS2 := Lib.hid hs2
                    clear hs2
                    go_wp2
                    go_roundw
                    case rel => exact ⟨k + 1, f, l, uP, uC, _, _, _, _, by omega, by go_num, by rw [HPe.out, HCe.out]; exact HT5.out, HS2.out⟩
                    case measure => simp [intOf]; omega
                  | true =>
                    have x0 := HT5.out.t.cell 0 rfl
                    have x1 := HT5.out.t.cell 1 rfl
                    cases b with
                    | false =>
                      have hs2 : seek n (n * R) (rchs n R L) (lens (rchs n R L)) (k + 1) = (f, l) := HSN.out
                      have HS2 := Lib.hid hs2
                      clear hs2
                      go_wp2
                      go_roundw
                      case rel => exact ⟨k + 1, f, l, uP, uC, _, _, _, _, by omega, by go_num, by rw [HPe.out, HCe.out]; exact HT5.out, HS2.out⟩
                      case measure => simp [intOf]; omega
                    | true =>
                      have hs2 : seek n (n * R) (rchs n R L) (lens (rchs n R L)) (k + 1) = (f + 1, lstep l cc) := HSN.out
                      have HS2 := Lib.hid hs2
                      have hF5 : Blk w5 (w.heap.size + 1) [.int .i64 (T : Int), .int .i64 (f : Int), .int .i64 l] 41 := (HT5.out.fx (w.heap.size + 1, [Value.int .i64 (T : Int), .int .i64 (f : Int), .int .i64 l], 41) (by simp [fxK])).1
                      have y1 := hF5.cell 1 rfl
                      have z1 := hF5.free 1
                      have hHH : Blk w5 bH [.int .i64 0, .int .i64 1, .int .i64 2, .int .i64 4] 74 := (HT5.out.fx (bH, [.int .i64 0, .int .i64 1, .int .i64 2, .int .i64 4], 74) (by simp [fxK])).1
                      have hneH : bH ≠ w.heap.size + 1 := blk_ne hHH hF5 (by decide)
                      have HNE := Lib.hid (show ∀ x ∈ ([(w.heap.size, [Value.int .i64 0, .int .i64 0, .int .i64 0], 41), (bH, [Value.int .i64 0, .int .i64 1, .int .i64 2, .int .i64 4], 74)] : Fx), x.1 ≠ w.heap.size + 1 from fun x hx => by
                        simp only [List.mem_cons, List.not_mem_nil, or_false] at hx
                        rcases hx with rfl | rfl
                        · show w.heap.size ≠ _; omega
                        · exact hneH)
                      have hTF : RT w (w5.setCell ⟨w.heap.size + 1, 1, none⟩ (.int .i64 ((f : Int) + 1))) bt n (fxK w.heap.size bH (T : Int) ((f : Int) + 1) l) P C (.slice A0 R c0) (.slice A1 R c1) gP gC :=
                        RT.setF (b := w.heap.size + 1) (vs := [.int .i64 (T : Int), .int .i64 (f : Int), .int .i64 l]) (ty := 41) HT5.out 1 (.int .i64 ((f : Int) + 1)) HNE.out
                      have hTab6 : Tab (w5.setCell ⟨w.heap.size + 1, 1, none⟩ (.int .i64 ((f : Int) + 1))) A0 A1 (itab P) (itab C) := by
                        obtain ⟨B0, d0, e0, t0, b0⟩ := hTF.p.tab (by have := HLP.out; omega)
                        obtain ⟨B1, d1, e1, t1, b1⟩ := hTF.c.tab (by have := HLC.out; omega)
                        injection e0 with e0
                        injection e1 with e1
                        subst e0 e1
                        have lp := HTAB5.out
                        exact ⟨t0, t1, lp.lp, lp.lc, lp.rp, lp.rc⟩
                      have HTAB6 := Lib.hid hTab6
                      have HTF := Lib.hid hTF
                      have x0' := hTF.t.cell 0 rfl
                      have x1' := hTF.t.cell 1 rfl
                      have hfl : f + 1 ≤ 1048577 := by omega
                      clear hs2 hF5 hHH x0 x1 hTab6 hTF HT5 HTAB5 hneH
                      go_wp2_with fail
                      refine (HCON.out _ _ _ _ _ HTAB6.out).mono ?_
                      rintro e w7 ⟨rfl, hb7⟩
                      have HT7 := Lib.hid (HTF.out.keep hb7)
                      clear hb7 x0' x1' HTF y1 z1
                      go_wp2_with fail
                      refine (HSZ.out _).mono ?_
                      rintro e w8 ⟨rfl, hb8⟩
                      have HT8 := Lib.hid (HT7.out.keep hb8)
                      have hF8 : Blk w8 (w.heap.size + 1) [.int .i64 (T : Int), .int .i64 ((f : Int) + 1), .int .i64 l] 41 := (HT8.out.fx (w.heap.size + 1, [Value.int .i64 (T : Int), .int .i64 ((f : Int) + 1), .int .i64 l], 41) (by simp [fxK])).1
                      have y2 := hF8.cell 2 rfl
                      have z2 := hF8.free 2
                      have hT9 : RT w (w8.setCell ⟨w.heap.size + 1, 2, none⟩ (.int .i64 (cc : Int))) bt n (fxK w.heap.size bH (T : Int) ((f : Int) + 1) (cc : Int)) P C (.slice A0 R c0) (.slice A1 R c1) gP gC :=
                        RT.setF (b := w.heap.size + 1) (vs := [.int .i64 (T : Int), .int .i64 ((f : Int) + 1), .int .i64 l]) (ty := 41) HT8.out 2 (.int .i64 (cc : Int)) HNE.out
                      have HT9 := Lib.hid hT9
                      clear hb8 HT7 hF8 hT9
                      by_cases h1 : l < 0
                      · have hls : lstep l cc = (cc : Int) := by unfold lstep; rw [if_pos (.inl h1)]
                        have HLS := Lib.hid hls
                        clear hls
                        go_wp2
                        go_roundw
                        case rel => exact ⟨k + 1, f + 1, (cc : Int), uP, uC, _, _, _, _, by omega, by go_num, by rw [HPe.out, HCe.out]; exact HT9.out, by rw [HS2.out, HLS.out]; rfl⟩
                        case measure => simp [intOf]; omega
                      · by_cases h2 : (cc : Int) < l
                        · have hls : lstep l cc = (cc : Int) := by unfold lstep; rw [if_pos (.inr h2)]
                          have HLS := Lib.hid hls
                          clear hls
                          go_wp2
                          go_roundw
                          case rel => exact ⟨k + 1, f + 1, (cc : Int), uP, uC, _, _, _, _, by omega, by go_num, by rw [HPe.out, HCe.out]; exact HT9.out, by rw [HS2.out, HLS.out]; rfl⟩
                          case measure => simp [intOf]; omega
                        · have hls : lstep l cc = l := by unfold lstep; rw [if_neg (by omega)]
                          have HLS := Lib.hid hls
                          clear hls
                          go_wp2
                          go_roundw
                          case rel => exact ⟨k + 1, f + 1, l, uP, uC, _, _, _, _, by omega, by go_num, by rw [HPe.out, HCe.out]; exact HT8.out, by rw [HS2.out, HLS.out]; rfl⟩
                          case measure => simp [intOf]; omega
            · obtain rfl : T = k := by omega
              have hkd : decide ((T : Int) < (T : Int)) = false := by simp
              have hF : Blk wr (w.heap.size + 1) [.int .i64 (T : Int), .int .i64 (f : Int), .int .i64 l] 41 := (hT.fx (w.heap.size + 1, [Value.int .i64 (T : Int), .int .i64 (f : Int), .int .i64 l], 41) (by simp [fxK])).1
              have hZ : Blk wr w.heap.size [.int .i64 0, .int .i64 0, .int .i64 0] 41 := (hT.fx (w.heap.size, [Value.int .i64 0, .int .i64 0, .int .i64 0], 41) (by simp [fxK])).1
              have y0 := hF.cell 0 rfl
              have y1 := hF.cell 1 rfl
              have y2 := hF.cell 2 rfl
              have q0 := hZ.cell 0 rfl
              have q1 := hZ.cell 1 rfl
              have q2 := hZ.cell 2 rfl
              have z0 := hZ.free 0
              have z1 := hZ.free 1
              have z2 := hZ.free 2
              have HZ := Lib.hid hZ
              have HBW := Lib.hid hT.below
              have hnf : ¬ 1048576 < T := by omega
              have hrs := rseek n R L
              rw [HN.out, HTD.out] at hrs
              have hseek2 := hseek.out
              rw [HN.out] at hseek2
              have hsk2 : seek n N (chs n R L) (lens (chs n R L)) T = (f, l) := by rw [← hrs]; exact hseek2
              have HSK := Lib.hid hsk2
              clear hF hZ hT hseek hrs hseek2 hsk2
              go_wp2
              have hr3 := ((HZ.out.set 0 (.int .i64 (T : Int))).set 1 (.int .i64 (f : Int))).set 2 (.int .i64 l)
              have f0 := hr3.cell 0 (v := .int .i64 (T : Int)) rfl
              have f1 := hr3.cell 1 (v := .int .i64 (f : Int)) rfl
              have f2 := hr3.cell 2 (v := .int .i64 l) rfl
              exact bodyPost_ret (v := .tuple #[.agg #[.int .i64 (T : Int), .int .i64 (f : Int), .int .i64 l], .int .i64 0]) (by simp [results, Try.results19, go_sem, f0, f1, f2]) rfl ⟨by rw [HN.out, HTD.out, if_neg hnf, HSK.out]; rfl, ((HBW.out.setCell (Nat.le_refl _) _).setCell (Nat.le_refl _) _).setCell (Nat.le_refl _) _⟩

end Go.Proofs.Ytmoemalkojckaaa.J
