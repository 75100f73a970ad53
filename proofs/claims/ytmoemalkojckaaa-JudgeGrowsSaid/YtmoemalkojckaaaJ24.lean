import Derived.Test.YtmoemalkojckaaaProg
import Derived.Below
import Derived.Deep.Draws
import Derived.Deep.AppendLies
import Derived.OwnWalk
import Derived.Laws.MakeOwn
import Derived.Laws.OwnMore
import Derived.Deep.OwnRows
import Derived.Tactics
import Derived.Laws.Slices
import Derived.WalkKit
import Derived.KernelRfl
import Derived.RowKit3
import Derived.Deep.LoopGhost
import Derived.Deep.QuietTactic
import Derived.BigQuiet
import Derived.Deep.DeepCutAuto
import Derived.Deep.CutBlock
import Derived.Deep.RegionHeld3
import Derived.Laws.Rows
import Derived.Laws.BitsLemmas
import Derived.RowKit
import Derived.Lib.Hide
import Derived.WalkLawsBesides
import Derived.WalkSpells
import Derived.Deep.DeepFit
import Derived.Deep.AppendLies
import Derived.Deep.RegionLaw
import Derived.Test.YtmoemalkojckaaaJ23
namespace Go.Proofs.Ytmoemalkojckaaa.J
open Go.RowKit
set_option linter.unusedVariables false
set_option linter.unusedSimpArgs false

section
variable {W wr wx : World} {n : Nat} {rP rC : List (List Nat)} {vP vC : Value} {gP gC : List Nat} {c : Nat}
theorem SH.ctrP (h : SH W wr n rP rC vP vC gP gC c) : ¬ Foot vP gP (W.heap.size + 2) := by
  rintro (e | e)
  · exact own_ne h.ti.p.own h.ctr (by decide) e
  · exact h.nP e
theorem SH.ctrC (h : SH W wr n rP rC vP vC gP gC c) : ¬ Foot vC gC (W.heap.size + 2) := by
  rintro (e | e)
  · exact own_ne h.ti.c.own h.ctr (by decide) e
  · exact h.nC e
theorem SH.tick (h : SH W wr n rP rC vP vC gP gC c) (c' : Nat) : SH W (wr.setCell ⟨W.heap.size + 2, 0, none⟩ (.int .i64 (c' : Int))) n rP rC vP vC gP gC c' := by
  have far : ∀ (k : Nat) (x : Value), k ≠ W.heap.size + 2 → (wr.setCell ⟨W.heap.size + 2, 0, none⟩ x).heap[k]? = wr.heap[k]? := fun k x hk => Below.heap_setCell _ _ _ _ hk
  refine ⟨⟨h.ti.t.far (by omega) _ _, h.ti.res.far (by omega) _ _, h.ti.p.move (fun k hk => far k _ (fun e => h.ctrP (e ▸ hk))), h.ti.c.move (fun k hk => far k _ (fun e => h.ctrC (e ▸ hk))), h.ti.sep, h.ti.below.setCell (by simp) _⟩, ?_, h.nP, h.nC⟩
  have := h.ctr.set 0 (.int .i64 (c' : Int))
  exact this
theorem SH.other (h : SH W wr n rP rC vP vC gP gC c) {a : Nat} {vs : List Value} (ha : Blk wr a vs 3) (na : W.heap.size + 2 < a) (fP : ¬ Foot vP gP a) (fC : ¬ Foot vC gC a) (i : Nat) (v : Value) :
    SH W (wr.setCell ⟨a, i, none⟩ v) n rP rC vP vC gP gC c := by
  have far : ∀ (k : Nat), k ≠ a → (wr.setCell ⟨a, i, none⟩ v).heap[k]? = wr.heap[k]? := fun k hk => Below.heap_setCell _ _ _ _ hk
  exact ⟨⟨h.ti.t.far (by omega) _ _, h.ti.res.far (by omega) _ _, h.ti.p.move (fun k hk => far k (fun e => fP (e ▸ hk))), h.ti.c.move (fun k hk => far k (fun e => fC (e ▸ hk))), h.ti.sep, h.ti.below.setCell (by show _ ≤ a; omega) _⟩, h.ctr.far (by omega) _ _, h.nP, h.nC⟩
theorem SH.keep (h : SH W wr n rP rC vP vC gP gC c) (hb : Below wr.heap.size wr wx) : SH W wx n rP rC vP vC gP gC c := by
  have hsz := h.ti.below.size
  exact ⟨⟨h.ti.t.below hb h.ti.t.lt, h.ti.res.below hb h.ti.res.lt, h.ti.p.move (fun k hk => hb.block k (h.ti.p.lt hk).2), h.ti.c.move (fun k hk => hb.block k (h.ti.c.lt hk).2), h.ti.sep, h.ti.below.trans (hb.mono hsz)⟩, h.ctr.below hb h.ctr.lt, h.nP, h.nC⟩
theorem SH.start (W : World) (n : Nat) (tape : List Int) : SH W (((W.alloc (.cells #[.slice none 0 0, .slice none 0 0] 24)).alloc (.cells #[.slice none 0 0, .slice none 0 0] 24)).alloc (.cells #[.int .i64 0] 3)) n (shP tape n 0) (shC tape n 0) (.slice none 0 0) (.slice none 0 0) [] [] 0 := by
  have e2 : ((W.alloc (.cells #[.slice none 0 0, .slice none 0 0] 24)).alloc (.cells #[.slice none 0 0, .slice none 0 0] 24)).heap.size = W.heap.size + 2 := by simp
  refine ⟨⟨?_, ((Blk.new W #[.slice none 0 0, .slice none 0 0] 24).alloc _).alloc _, Rows2.nil _ _ _, Rows2.nil _ _ _, fun b h => ?_, (((Below.refl _ _).alloc (Nat.le_refl _) _).alloc (by simp) _).alloc (by simp; omega) _⟩, ?_, by simp, by simp⟩
  · have := (Blk.new (W.alloc (.cells #[.slice none 0 0, .slice none 0 0] 24)) #[.slice none 0 0, .slice none 0 0] 24).alloc (.cells #[.int .i64 0] 3)
    have e : (W.alloc (.cells #[.slice none 0 0, .slice none 0 0] 24)).heap.size = W.heap.size + 1 := by simp
    rw [e] at this
    exact this
  · rcases h with h | h
    · simp [Value.ownBlock] at h
    · simp at h
  · have := Blk.new ((W.alloc (.cells #[.slice none 0 0, .slice none 0 0] 24)).alloc (.cells #[.slice none 0 0, .slice none 0 0] 24)) #[.int .i64 0] 3
    rw [e2] at this
    exact this
end

theorem two_pushes {W wr wa w1 wb w2 : World} {n : Nat} {rP rC : List (List Nat)} {vP vC : Value} {gP gC : List Nat} {c a b q1 c1 q2 c2 : Nat} {ra rb : List Nat} (h : SH W wr n rP rC vP vC gP gC c)
    (ha : Blk wr a (nums ra) 3) (hb : Blk wr b (nums rb) 3) (la : ra.length = n) (lb : rb.length = n) (hab : a ≠ b) (na : W.heap.size + 2 < a) (nb : W.heap.size + 2 < b)
    (fa : ¬ Foot vP gP a ∧ ¬ Foot vC gC a) (fb : ¬ Foot vP gP b ∧ ¬ Foot vC gC b)
    (g0 : wr.grownBy wa none) (g1 : wa.grownBy w1 vP.ownBlock) (g2 : w1.grownBy wb none) (g3 : wb.grownBy w2 vC.ownBlock)
    (o1 : w1.ownsRow W.heap.size 45 1 (.slice (some ⟨q1, 0, none⟩) (gP.length + 1) c1) (gP.length + 1) (gP.map (slv n) ++ [slv n a])) (a1 : vP.ownBlock = some q1 ∨ q1 = wa.heap.size) (l1 : q1 < w1.heap.size)
    (o2 : w2.ownsRow W.heap.size 45 1 (.slice (some ⟨q2, 0, none⟩) (gC.length + 1) c2) (gC.length + 1) (gC.map (slv n) ++ [slv n b])) (a2 : vC.ownBlock = some q2 ∨ q2 = wb.heap.size) :
    SH W ((w2.setCell ⟨W.heap.size + 1, 0, none⟩ (.slice (some ⟨q1, 0, none⟩) (gP.length + 1) c1)).setCell ⟨W.heap.size + 1, 1, none⟩ (.slice (some ⟨q2, 0, none⟩) (gC.length + 1) c2)) n (rP ++ [ra]) (rC ++ [rb])
      (.slice (some ⟨q1, 0, none⟩) (gP.length + 1) c1) (.slice (some ⟨q2, 0, none⟩) (gC.length + 1) c2) (gP ++ [a]) (gC ++ [b]) c := by
  have s0 := g0.size
  have s1 := g1.size
  have s2 := g2.size
  have s3 := g3.size
  have keep : ∀ k, k < wr.heap.size → vP.ownBlock ≠ some k → vC.ownBlock ≠ some k → w2.heap[k]? = wr.heap[k]? := fun k hk hp hc => by
    rw [g3.block k (by omega) (Ne.symm hc), g2.block k (by omega) (by simp), g1.block k (by omega) (Ne.symm hp), g0.block k hk (by simp)]
  have at1 : vP.ownBlock = some q1 ∨ wr.heap.size ≤ q1 := by rcases a1 with a1 | a1; exact .inl a1; right; omega
  have at2 : vC.ownBlock = some q2 ∨ wr.heap.size ≤ q2 := by rcases a2 with a2 | a2; exact .inl a2; right; omega
  have q1C : vC.ownBlock ≠ some q1 := by
    intro e
    have lt := (h.ti.c.own.lt q1 e).2
    rcases at1 with at1 | at1
    · exact h.ti.sep q1 (.inl at1) (.inl e)
    · omega
  have hq : q1 ≠ q2 := by
    rintro rfl
    rcases a2 with a2 | a2
    · exact q1C a2
    · omega
  have o1' : w2.ownsRow W.heap.size 45 1 (.slice (some ⟨q1, 0, none⟩) (gP.length + 1) c1) (gP.length + 1) (gP.map (slv n) ++ [slv n a]) := own_move o1 fun k hk => by
    have e : q1 = k := by simpa [Value.ownBlock] using hk
    subst e
    rw [g3.block q1 (by omega) (Ne.symm q1C), g2.block q1 l1 (by simp)]
  exact h.push ha hb la lb hab na nb fa fb o1' o2 at1 at2 hq keep ⟨g3.os.trans (g2.os.trans (g1.os.trans g0.os)), g3.tape.trans (g2.tape.trans (g1.tape.trans g0.tape)), g3.output.trans (g2.output.trans (g1.output.trans g0.output)), by omega⟩

/-- The variable t, behind both appends. -/
theorem two_blk {W wr wa w1 wb w2 : World} {n : Nat} {rP rC : List (List Nat)} {vP vC : Value} {gP gC : List Nat} {c : Nat} (h : SH W wr n rP rC vP vC gP gC c)
    (g0 : wr.grownBy wa none) (g1 : wa.grownBy w1 vP.ownBlock) (g2 : w1.grownBy wb none) (g3 : wb.grownBy w2 vC.ownBlock) : Blk w2 (W.heap.size + 1) [vP, vC] 24 := by
  have s0 := g0.size
  have s1 := g1.size
  have s2 := g2.size
  have hk := h.ti.t.lt
  unfold Blk
  rw [g3.block _ (by omega) (Ne.symm (own_ne h.ti.c.own h.ti.t (by decide))), g2.block _ (by omega) (by simp), g1.block _ (by omega) (Ne.symm (own_ne h.ti.p.own h.ti.t (by decide))), g0.block _ hk (by simp)]
  exact h.ti.t

theorem news_kept {X w1 : World} {row : Option Nat} {b : Nat} {v : Value} (hN : ∀ (j : Nat) (u : Value), [v][j]? = some u → X.cell? ((⟨b, 0, none⟩ : Addr).add j) = some u) (hg : X.grownBy w1 row) (hne : some b ≠ row) :
    ∀ (j : Nat) (u : Value), [v][j]? = some u → w1.cell? ((⟨b, 0, none⟩ : Addr).add j) = some u := by
  intro j u h
  refine hg.cell (hN j u h) ?_
  have e : ((⟨b, 0, none⟩ : Addr).add j).block = b := by unfold Addr.add; split <;> rfl
  rw [e]; exact hne

theorem one_blk {W wr wa w1 : World} {n : Nat} {rP rC : List (List Nat)} {vP vC : Value} {gP gC : List Nat} {c : Nat} (h : SH W wr n rP rC vP vC gP gC c)
    (g0 : wr.grownBy wa none) (g1 : wa.grownBy w1 vP.ownBlock) : Blk w1 (W.heap.size + 1) [vP, vC] 24 := by
  have s0 := g0.size
  have hk := h.ti.t.lt
  unfold Blk
  rw [g1.block _ (by omega) (Ne.symm (own_ne h.ti.p.own h.ti.t (by decide))), g0.block _ hk (by simp)]
  exact h.ti.t

theorem Rows2.lower {w : World} {base base' : Nat} {v : Value} {gs : List Nat} {rows : List (List Nat)} {n : Nat} (h : Rows2 w base v gs rows n) (hb : base' ≤ base) : Rows2 w base' v gs rows n := by
  refine ⟨?_, h.len, fun r hr => ⟨(h.blk r hr).1, (h.blk r hr).2.1, Nat.le_trans hb (h.blk r hr).2.2⟩, h.nodup⟩
  obtain ⟨h1, h2⟩ := h.own
  refine ⟨h1, ?_⟩
  rcases h2 with h2 | ⟨g, cap, cur, rfl, hg, hh, r⟩
  · exact .inl h2
  · exact .inr ⟨g, cap, cur, rfl, Nat.le_trans hb hg, hh, r⟩

theorem drew_grown {w w' : World} {row : Option Nat} (h : w.grownBy w' row) : w.grownBy w'.drew row := ⟨h.os, h.tape, h.output, h.size, h.block⟩

def nOf (a : Int) : Nat := 1 + (IntKind.u64.wrap a % 7).toNat
def kOf (b : Int) : Nat := 1 + (IntKind.u64.wrap b % 3).toNat
theorem nOf_le (a : Int) : 1 ≤ nOf a ∧ nOf a ≤ 7 := by unfold nOf; have := u64_nonneg a; omega
theorem kOf_le (a : Int) : 1 ≤ kOf a ∧ kOf a ≤ 3 := by unfold kOf; have := u64_nonneg a; omega

/-- What 'shape' hands back. -/
def ShapeEnd (a b : Int) (tape : List Int) (w : World) (e : Ending) (w' : World) : Prop :=
  ∃ vP vC gP gC, e = .returned (.agg #[vP, vC]) ∧ Rows2 w' w.heap.size vP gP (shP tape (nOf a) (kOf b)) (nOf a) ∧ Rows2 w' w.heap.size vC gC (shC tape (nOf a) (kOf b)) (nOf a) ∧ (∀ k, Foot vP gP k → Foot vC gC k → False) ∧ Below w.heap.size w w'

set_option maxHeartbeats 6400000 in
set_option maxRecDepth 100000 in
theorem shape_calls (a b : Int) (tape : List Int) (cap : Nat) (A : Option Addr) (w : World) (htl : tape.length ≤ 9223372036854775807) (hR : RowAt w A tape) :
    Calls Try.prog 20 #[.int .i64 a, .int .i64 b, .slice A tape.length cap] w (ShapeEnd a b tape w) := by
  obtain ⟨i45, hi45, hz0, hz1, hz2⟩ := info_parts info45
  have hmf : ∀ (fn : Fn) (first cap : Array Value) (w : World), (Instr.makeFunc fn first cap).run Try.prog w = .ok (.func fn first cap) w := fun _ _ _ _ => rfl
  have HN := Lib.hid (show nOf a = 1 + (IntKind.u64.wrap a % 7).toNat from rfl)
  have HK := Lib.hid (show kOf b = 1 + (IntKind.u64.wrap b % 3).toNat from rfl)
  have hn := nOf_le a
  have hk := kOf_le b
  have hu := u64_nonneg a
  have hu2 := u64_nonneg b
  have hnI : 1 + IntKind.u64.wrap a % 7 = ((nOf a : Nat) : Int) := by rw [HN.out]; omega
  have hkI : 1 + IntKind.u64.wrap b % 3 = ((kOf b : Nat) : Int) := by rw [HK.out]; omega
  unfold ShapeEnd
  generalize nOf a = n at *
  generalize kOf b = kk at *
  have hn1 := hn.1
  have hn7 := hn.2
  have hk1 := hk.1
  have hk3 := hk.2
  have hmk := fun wx => Go.run_make_row' (P := Try.prog) 45 3 (.int .i64 0) 8 Try.underlying45 info3 rfl .i64 .i64 n (by omega) (by omega) wx
  rw [mk_nums] at hmk
  obtain ⟨W, hW⟩ : ∃ W, w.alloc (.cells #[.slice A tape.length cap] 45) = W := ⟨_, rfl⟩
  have hWs : W.heap.size = w.heap.size + 1 := by rw [← hW]; simp
  have hbW : Below w.heap.size w W := by rw [← hW]; exact (Below.refl _ _).alloc (Nat.le_refl _) _
  have hbox : Blk W w.heap.size [.slice A tape.length cap] 45 := by rw [← hW]; exact Blk.new w #[.slice A tape.length cap] 45
  have HBW := Lib.hid hbW
  have HBX := Lib.hid hbox
  have HRW := Lib.hid (hR.below hbW)
  have HST := Lib.hid (SH.start W n tape)
  have HML := Lib.hid (show (1001 : Nat) ≤ maxLen by unfold maxLen; omega)
  clear hn hk hR hbW hbox
  obtain ⟨len, hlen⟩ : ∃ len, tape.length = len := ⟨_, rfl⟩
  rw [hlen] at htl hW HBX ⊢
  have HLEN := Lib.hid hlen
  clear hlen
  go_enter Try.func20, Try.ntmps20
  go_wp2_with fail
  go_loopw [12] (fun i wr => ∃ (r : Nat) (vP vC : Value) (gP gC : List Nat), r ≤ kk ∧ i = .int .i64 r ∧ SH W wr n (shP tape n r) (shC tape n r) vP vC gP gC (2 * (r * n))) (fun i _ => kk - (intOf i).toNat)
  case atStart => exact ⟨0, _, _, _, _, by omega, rfl, by rw [Nat.zero_mul]; exact HST.out⟩
  case round =>
    have HW := Lib.hid hW
    clear hW
    obtain ⟨r, vP, vC, gP, gC, hr, rfl, hS⟩ := hrel
    by_cases hlt : r < kk
    · have hrI : (r : Int) < (kk : Int) := by omega
      have hdr : decide ((r : Int) < (kk : Int)) = true := decide_eq_true hrI
      go_upto_block 1 with (fail)
      go_cut [] (fun wx => ∃ vP vC gP gC, SH W wx n (shP tape n (r + 1)) (shC tape n (r + 1)) vP vC gP gC (2 * ((r + 1) * n)))
      case rest =>
        clear hS
        obtain ⟨vP2, vC2, gP2, gC2, hS⟩ := hcut
        go_wp2
        go_roundw
        case rel => exact ⟨r + 1, vP2, vC2, gP2, gC2, by omega, by go_num, hS⟩
        case measure => simp [intOf]; omega
      case first =>
      go_upto_region 8 with (fail)
      go_cut [13, 14] (fun v13 v14 wx => ∃ a b : Nat, v13 = .slice (some ⟨a, 0, none⟩) n n ∧ v14 = .slice (some ⟨b, 0, none⟩) n n ∧ a ≠ b ∧ wr.heap.size ≤ a ∧ wr.heap.size ≤ b ∧ Blk wx a (nums (List.replicate n 0)) 3 ∧ Blk wx b (nums (List.replicate n 0)) 3 ∧ Below wr.heap.size wr wx)
      case first =>
        have z1 := (Blk.new wr (nums (List.replicate n 0)).toArray 3).alloc (.cells (nums (List.replicate n 0)).toArray 3)
        have z2 := Blk.new (wr.alloc (.cells (nums (List.replicate n 0)).toArray 3)) (nums (List.replicate n 0)).toArray 3
        have e1 : (wr.alloc (.cells (nums (List.replicate n 0)).toArray 3)).heap.size = wr.heap.size + 1 := by simp
        rw [List.toList_toArray] at z1 z2
        rw [e1] at z2
        have z3 : Below wr.heap.size wr ((wr.alloc (.cells (nums (List.replicate n 0)).toArray 3)).alloc (.cells (nums (List.replicate n 0)).toArray 3)) := ((Below.refl _ _).alloc (Nat.le_refl _) _).alloc (by simp) _
        have Z := Lib.hid (And.intro z1 (And.intro z2 z3))
        clear z1 z2 z3 e1
        go_region
        all_goals (go_wp2_with fail; go_meet)
        · first | exact ⟨wr.heap.size, wr.heap.size + 1, rfl, rfl, by omega, by omega, by omega, Z.out.1, Z.out.2.1, Z.out.2.2.drew⟩ | exact ⟨wr.heap.size + 1, wr.heap.size, rfl, rfl, by omega, by omega, by omega, Z.out.2.1, Z.out.1, Z.out.2.2.drew⟩
        · first | exact ⟨wr.heap.size, wr.heap.size + 1, rfl, rfl, by omega, by omega, by omega, Z.out.1, Z.out.2.1, Z.out.2.2.drew⟩ | exact ⟨wr.heap.size + 1, wr.heap.size, rfl, rfl, by omega, by omega, by omega, Z.out.2.1, Z.out.1, Z.out.2.2.drew⟩
      case rest =>
        obtain ⟨ga, gb, rfl, rfl, hab, hga, hgb, hBa, hBb, hbl⟩ := hcut
        obtain ⟨wx, hwx⟩ : ∃ wx : World, wx = wc := ⟨_, rfl⟩
        subst hwx
        have hsw := hS.ti.below.size
        have hctl := hS.ctr.lt
        have fa1 : ¬ Foot vP gP ga := fun e => by have := (hS.ti.p.lt e).2; omega
        have fa2 : ¬ Foot vC gC ga := fun e => by have := (hS.ti.c.lt e).2; omega
        have fb1 : ¬ Foot vP gP gb := fun e => by have := (hS.ti.p.lt e).2; omega
        have fb2 : ¬ Foot vC gC gb := fun e => by have := (hS.ti.c.lt e).2; omega
        have hS2 := Lib.hid (hS.keep hbl)
        have hna : W.heap.size + 2 < ga := by omega
        have hnb : W.heap.size + 2 < gb := by omega
        have HBa := Lib.hid hBa
        have HBb := Lib.hid hBb
        clear hS hbl hBa hBb
        go_wp2_with fail
        go_loopw [15] (fun j wy => ∃ m : Nat, m ≤ n ∧ j = .int .i64 m ∧ SH W wy n (shP tape n r) (shC tape n r) vP vC gP gC (2 * (r * n + m)) ∧ Blk wy ga (nums (part (rowP tape n r) n m)) 3 ∧ Blk wy gb (nums (part (rowC tape n r) n m)) 3) (fun j _ => n - (intOf j).toNat)
        case atStart => exact ⟨0, by omega, rfl, hS2.out, by rw [part_zero]; exact HBa.out, by rw [part_zero]; exact HBb.out⟩
        case round =>
          clear hS2 HBa HBb
          obtain ⟨wy, hwy⟩ : ∃ wz : World, wz = wr := ⟨_, rfl⟩
          subst hwy
          obtain ⟨m, hm, rfl, hS, hA, hB⟩ := hrel
          by_cases hlt2 : m < n
          · have hrn : r * n + m ≤ 1000 := by
              have h1 : r * n ≤ 3 * 7 := Nat.mul_le_mul (by omega) hn7
              omega
            obtain ⟨s, hs⟩ : ∃ s, 2 * (r * n + m) = s := ⟨_, rfl⟩
            have hs2 : 2 * (r * n + (m + 1)) = s + 1 + 1 := by omega
            have HPG := Lib.hid (rowP_get tape n r m hlt2)
            have HCG := Lib.hid (rowC_get tape n r m hlt2)
            have HPS := Lib.hid (part_set (rowP tape n r) n m (rowP_length _ _ _) hlt2)
            have HCS := Lib.hid (part_set (rowC tape n r) n m (rowC_length _ _ _) hlt2)
            rw [hs] at hS HPG HCG
            have hsb : s ≤ 2000 := by omega
            clear hs
            have e3 : W.heap.size + 2 = w.heap.size + 1 + 1 + 1 := by omega
            have hbx := cell_of_below hS.ti.below (HBX.out.cell 0 rfl)
            have hRy := HRW.out.below hS.ti.below
            -- the first draw from the tape
            have hx := tv_lt tape s 4 (by omega)
            have hy := tv_lt tape (s + 1) 8 (by omega)
            have hS1 := hS.tick (s + 1)
            have hbx1 := cell_of_below hS1.ti.below (HBX.out.cell 0 rfl)
            have hRy1 := HRW.out.below hS1.ti.below
            have n1 := next_calls tape s 4 cap (W.heap.size + 2) w.heap.size A wy (by omega) (by omega) (by omega) (by rw [HLEN.out]; exact htl) (hS.ctr.cell 0 rfl) (hS.ctr.free 0) (by rw [HLEN.out]; exact hbx) hRy
            have hcst : ((s : Int) + 1) = ((s + 1 : Nat) : Int) := by omega
            rw [hcst] at n1
            have n2 := next_calls tape (s + 1) 8 cap (W.heap.size + 2) w.heap.size A _ (by omega) (by omega) (by omega) (by rw [HLEN.out]; exact htl) (hS1.ctr.cell 0 rfl) (hS1.ctr.free 0) (by rw [HLEN.out]; exact hbx1) hRy1
            have hcst2 : (((s + 1 : Nat) : Int) + 1) = ((s + 1 + 1 : Nat) : Int) := by omega
            rw [hcst2] at n2
            have hS2 := hS1.tick (s + 1 + 1)
            have ctrA : ga ≠ W.heap.size + 2 := by omega
            have ctrB : gb ≠ W.heap.size + 2 := by omega
            have hA2 := (hA.far ctrA 0 (.int .i64 ((s + 1 : Nat) : Int))).far ctrA 0 (.int .i64 ((s + 1 + 1 : Nat) : Int))
            have hB2 := (hB.far ctrB 0 (.int .i64 ((s + 1 : Nat) : Int))).far ctrB 0 (.int .i64 ((s + 1 + 1 : Nat) : Int))
            rw [e3] at n1 n2 hS2 hA2 hB2 hS1
            obtain ⟨w1, hw1⟩ : ∃ w1, wy.setCell ⟨w.heap.size + 1 + 1 + 1, 0, none⟩ (.int .i64 ((s + 1 : Nat) : Int)) = w1 := ⟨_, rfl⟩
            rw [hw1] at n1 n2 hS2 hA2 hB2
            obtain ⟨w2, hw2⟩ : ∃ w2, w1.setCell ⟨w.heap.size + 1 + 1 + 1, 0, none⟩ (.int .i64 ((s + 1 + 1 : Nat) : Int)) = w2 := ⟨_, rfl⟩
            rw [hw2] at n2 hS2 hA2 hB2
            obtain ⟨x, hxe⟩ : ∃ x, tv tape s 4 = x := ⟨_, rfl⟩
            obtain ⟨y, hye⟩ : ∃ y, tv tape (s + 1) 8 = y := ⟨_, rfl⟩
            rw [hxe] at n1 hx HPG
            rw [hye] at n2 hy HCG
            have hS3 := hS2.other hA2 hna fa1 fa2 m (.int .i64 (x : Int))
            have hA3 := hA2.set m (.int .i64 (x : Int))
            have hB3 := hB2.far (Ne.symm hab) m (.int .i64 (x : Int))
            have hS4 := hS3.other hB3 hnb fb1 fb2 m (.int .i64 (y : Int))
            have hA4 := hA3.far hab m (.int .i64 (y : Int))
            have hB4 := hB3.set m (.int .i64 (y : Int))
            have eA : (nums (part (rowP tape n r) n m)).set m (.int .i64 (x : Int)) = nums (part (rowP tape n r) n (m + 1)) := by
              rw [← HPS.out, HPG.out]; unfold nums; rw [List.map_set]
            have eB : (nums (part (rowC tape n r) n m)).set m (.int .i64 (y : Int)) = nums (part (rowC tape n r) n (m + 1)) := by
              rw [← HCS.out, HCG.out]; unfold nums; rw [List.map_set]
            rw [eA] at hA4
            rw [eB] at hB4
            have lA : m < (part (rowP tape n r) n m).length := by rw [part_length _ _ _ (rowP_length _ _ _) (by omega)]; exact hlt2
            have lB : m < (part (rowC tape n r) n m).length := by rw [part_length _ _ _ (rowC_length _ _ _) (by omega)]; exact hlt2
            have q1 := hA2.cell m (nums_get _ m lA)
            have q2 := hA2.free m
            have q3 := hB2.cell m (nums_get _ m lB)
            have q4 := hB2.free m
            have FIN := Lib.hid (And.intro hS4 (And.intro hA4 hB4))
            have N1 := Lib.hid n1
            have N2 := Lib.hid n2
            generalize (part (rowP tape n r) n m)[m] = ua at q1
            generalize (part (rowC tape n r) n m)[m] = ub at q3
            have HS2 := Lib.hid hs2
            have hmI : (m : Int) < (n : Int) := by omega
            clear n1 n2 hS hA hB hS1 hS2 hS3 hS4 hA2 hA3 hA4 hB2 hB3 hB4 eA eB lA lB hcst hcst2 e3 hbx hRy hbx1 hRy1 hxe hye hs2 hw1 hw2 ctrA ctrB
            go_wp2_with fail
            refine (N1.out).mono ?_
            rintro e w' ⟨rfl, rfl⟩
            go_wp2_with fail
            refine (N2.out).mono ?_
            rintro e w' ⟨rfl, rfl⟩
            go_wp2
            go_roundw
            case rel => exact ⟨m + 1, by omega, by go_num, by rw [HS2.out]; exact FIN.out.1, FIN.out.2.1, FIN.out.2.2⟩
            case measure => simp [intOf]; omega
          · obtain rfl : m = n := by omega
            rw [part_end _ _ (rowP_length _ _ _)] at hA
            rw [part_end _ _ (rowC_length _ _ _)] at hB
            have hc2 : 2 * (r * m + m) = 2 * ((r + 1) * m) := by rw [Nat.add_mul]; omega
            rw [hc2] at hS
            have lP : gP.length ≤ 1000 := by rw [hS.ti.p.len]; simp [shP]; omega
            have lC : gC.length ≤ 1000 := by rw [hS.ti.c.len]; simp [shC]; omega
            have HS := Lib.hid hS
            have HA := Lib.hid hA
            have HB := Lib.hid hB
            have e3 : W.heap.size + 1 = w.heap.size + 1 + 1 := by omega
            have t0 := hS.ti.t.cell 0 rfl
            have t1 := hS.ti.t.cell 1 rfl
            have t2 := fun X => (hS.ti.t.alloc X).cell 0 (v := vP) rfl
            have t3 := fun X => (hS.ti.t.alloc X).cell 1 (v := vC) rfl
            have t4 := fun X Y => ((hS.ti.t.alloc X).alloc Y).cell 0 (v := vP) rfl
            have t5 := fun X Y => ((hS.ti.t.alloc X).alloc Y).cell 1 (v := vC) rfl
            rw [e3] at t0 t1 t2 t3 t4 t5
            have ownP := hS.ti.p.own
            have ownC := hS.ti.c.own
            have hsz := hS.ti.below.size
            have hne : vC.ownBlock = none ∨ vC.ownBlock ≠ vP.ownBlock := by
              cases hvc : vC.ownBlock with
              | none => exact .inl rfl
              | some k => exact .inr fun e => hS.ti.sep k (.inl e.symm) (.inl hvc)
            have mlP : gP.length + 1 ≤ maxLen := by have := HML.out; omega
            have mlC : gC.length + 1 ≤ maxLen := by have := HML.out; omega
            clear hA hB hS hc2
            have NA := Lib.hid (news_one wy wy.heap.size (slv m ga) 45 rfl)
            have NB := Lib.hid (news_kept (news_one wy wy.heap.size (slv m ga) 45 rfl) (World.grownBy_alloc (wy.alloc (.cells #[slv m ga] 45)) (.cells #[slv m gb] 45) none) (by simp))
            have NC := Lib.hid (news_one (wy.alloc (.cells #[slv m gb] 45)) (wy.heap.size + 1) (slv m ga) 45 (by simp))
            have ND : Hid (∀ (j : Nat) (u : Value), [slv m gb][j]? = some u → ((wy.alloc (.cells #[slv m ga] 45)).alloc (.cells #[slv m gb] 45)).drew.cell? ((⟨wy.heap.size + 1, 0, none⟩ : Addr).add j) = some u) := Lib.hid (news_one (wy.alloc (.cells #[slv m ga] 45)) (wy.heap.size + 1) (slv m gb) 45 (by simp))
            have ne1 := news_kept (news_one wy wy.heap.size (slv m gb) 45 rfl) (World.grownBy_alloc (wy.alloc (.cells #[slv m gb] 45)) (.cells #[slv m ga] 45) none) (by simp)
            have NE : Hid (∀ (j : Nat) (u : Value), [slv m gb][j]? = some u → ((wy.alloc (.cells #[slv m gb] 45)).alloc (.cells #[slv m ga] 45)).drew.cell? ((⟨wy.heap.size, 0, none⟩ : Addr).add j) = some u) := Lib.hid ne1
            clear ne1
            have hfr : ∀ k, wy.heap.size ≤ k → some k ≠ vP.ownBlock := fun k hk e => by have := (ownP.lt k e.symm).2; omega
            have HSP := Lib.hid (shP_succ tape m r)
            have HSC := Lib.hid (shC_succ tape m r)
            have lrP := rowP_length tape m r
            have lrC := rowC_length tape m r
            have LRP := Lib.hid lrP
            have LRC := Lib.hid lrC
            clear lrP lrC hmf hmk hdr hga hgb htl hu hu2
            go_wp2_with fail
            go_region_law (first | (refine step_append_lies _ (by rfl) _ _ _ (by rfl) W.heap.size 45 i45 _ 1 24 Try.underlying22 hi45 hz0 hz1 hz2 rfl (by omega) vP gP.length (gP.map (slv m)) (by rfl) ((ownP.alloc _).drew) ⟨wy.heap.size, 0, none⟩ 1 1 [slv m ga] (by rfl) (by rfl) NA.out (by simp [Value.oneCell', slv]) (by omega) mlP (by omega) (by simp; omega) _ (by rfl) ?_; intro q1 c1 w1 hown1 hgrow1 hat1 hlt1; have hT1 := one_blk HS.out (by first | exact drew_grown (World.grownBy_alloc _ _ _) | exact drew_grown (grownBy_trans (World.grownBy_alloc _ _ _) (World.grownBy_alloc _ _ _))) hgrow1; rw [e3] at hT1; have u1 := hT1.cell 1 rfl; have u2 := fun X => (hT1.alloc X).cell 1 (v := vC) rfl; clear hT1) | (refine step_append_lies _ (by rfl) _ _ _ (by rfl) W.heap.size 45 i45 _ 1 24 Try.underlying22 hi45 hz0 hz1 hz2 rfl (by omega) vP gP.length (gP.map (slv m)) (by rfl) (((ownP.alloc _).alloc _).drew) ⟨wy.heap.size, 0, none⟩ 1 1 [slv m ga] (by rfl) (by rfl) NB.out (by simp [Value.oneCell', slv]) (by omega) mlP (by omega) (by simp; omega) _ (by rfl) ?_; intro q1 c1 w1 hown1 hgrow1 hat1 hlt1; have hT1 := one_blk HS.out (by first | exact drew_grown (World.grownBy_alloc _ _ _) | exact drew_grown (grownBy_trans (World.grownBy_alloc _ _ _) (World.grownBy_alloc _ _ _))) hgrow1; rw [e3] at hT1; have u1 := hT1.cell 1 rfl; have u2 := fun X => (hT1.alloc X).cell 1 (v := vC) rfl; clear hT1) | (refine step_append_lies _ (by rfl) _ _ _ (by rfl) W.heap.size 45 i45 _ 1 24 Try.underlying22 hi45 hz0 hz1 hz2 rfl (by omega) vP gP.length (gP.map (slv m)) (by rfl) (((ownP.alloc _).alloc _).drew) ⟨wy.heap.size + 1, 0, none⟩ 1 1 [slv m ga] (by rfl) (by rfl) NC.out (by simp [Value.oneCell', slv]) (by omega) mlP (by omega) (by simp; omega) _ (by rfl) ?_; intro q1 c1 w1 hown1 hgrow1 hat1 hlt1; have hT1 := one_blk HS.out (by first | exact drew_grown (World.grownBy_alloc _ _ _) | exact drew_grown (grownBy_trans (World.grownBy_alloc _ _ _) (World.grownBy_alloc _ _ _))) hgrow1; rw [e3] at hT1; have u1 := hT1.cell 1 rfl; have u2 := fun X => (hT1.alloc X).cell 1 (v := vC) rfl; clear hT1) | (refine step_append_lies _ (by rfl) _ _ _ (by rfl) W.heap.size 45 i45 _ 1 24 Try.underlying22 hi45 hz0 hz1 hz2 rfl (by omega) vC gC.length (gC.map (slv m)) (by rfl) (((ownC.alloc _).drew.kept hgrow1 hne).alloc _) ⟨w1.heap.size, 0, none⟩ 1 1 [slv m gb] (by rfl) (by rfl) (news_one w1 w1.heap.size (slv m gb) 45 rfl) (by simp [Value.oneCell', slv]) (by omega) mlC (by omega) (by have := hgrow1.size; simp at this ⊢; omega) _ (by rfl) ?_; intro q2 c2 w2 hown2 hgrow2 hat2 hlt2; have hT2 := two_blk HS.out (by first | exact drew_grown (World.grownBy_alloc _ _ _) | exact drew_grown (grownBy_trans (World.grownBy_alloc _ _ _) (World.grownBy_alloc _ _ _))) hgrow1 (by first | exact World.grownBy.refl _ _ | exact World.grownBy_alloc _ _ _) hgrow2; rw [e3] at hT2; have s0 := hT2.cell 0 rfl; have s1 := hT2.cell 1 rfl; have s2 := hT2.free 0; have s3 := hT2.free 1; clear hT2) | (refine step_append_lies _ (by rfl) _ _ _ (by rfl) W.heap.size 45 i45 _ 1 24 Try.underlying22 hi45 hz0 hz1 hz2 rfl (by omega) vC gC.length (gC.map (slv m)) (by rfl) (((ownC.alloc _).alloc _).drew.kept hgrow1 hne) ⟨wy.heap.size + 1, 0, none⟩ 1 1 [slv m gb] (by rfl) (by rfl) (news_kept ND.out hgrow1 (hfr _ (by omega))) (by simp [Value.oneCell', slv]) (by omega) mlC (by omega) (by have := hgrow1.size; simp at this ⊢; omega) _ (by rfl) ?_; intro q2 c2 w2 hown2 hgrow2 hat2 hlt2; have hT2 := two_blk HS.out (by first | exact drew_grown (World.grownBy_alloc _ _ _) | exact drew_grown (grownBy_trans (World.grownBy_alloc _ _ _) (World.grownBy_alloc _ _ _))) hgrow1 (by first | exact World.grownBy.refl _ _ | exact World.grownBy_alloc _ _ _) hgrow2; rw [e3] at hT2; have s0 := hT2.cell 0 rfl; have s1 := hT2.cell 1 rfl; have s2 := hT2.free 0; have s3 := hT2.free 1; clear hT2) | (refine step_append_lies _ (by rfl) _ _ _ (by rfl) W.heap.size 45 i45 _ 1 24 Try.underlying22 hi45 hz0 hz1 hz2 rfl (by omega) vC gC.length (gC.map (slv m)) (by rfl) (((ownC.alloc _).alloc _).drew.kept hgrow1 hne) ⟨wy.heap.size, 0, none⟩ 1 1 [slv m gb] (by rfl) (by rfl) (news_kept NE.out hgrow1 (hfr _ (by omega))) (by simp [Value.oneCell', slv]) (by omega) mlC (by omega) (by have := hgrow1.size; simp at this ⊢; omega) _ (by rfl) ?_; intro q2 c2 w2 hown2 hgrow2 hat2 hlt2; have hT2 := two_blk HS.out (by first | exact drew_grown (World.grownBy_alloc _ _ _) | exact drew_grown (grownBy_trans (World.grownBy_alloc _ _ _) (World.grownBy_alloc _ _ _))) hgrow1 (by first | exact World.grownBy.refl _ _ | exact World.grownBy_alloc _ _ _) hgrow2; rw [e3] at hT2; have s0 := hT2.cell 0 rfl; have s1 := hT2.cell 1 rfl; have s2 := hT2.free 0; have s3 := hT2.free 1; clear hT2) | fail)
            all_goals
              have hN := two_pushes HS.out HA.out HB.out LRP.out LRC.out hab hna hnb ⟨fa1, fa2⟩ ⟨fb1, fb2⟩ (by first | exact drew_grown (World.grownBy_alloc _ _ _) | exact drew_grown (grownBy_trans (World.grownBy_alloc _ _ _) (World.grownBy_alloc _ _ _))) hgrow1 (by first | exact World.grownBy.refl _ _ | exact World.grownBy_alloc _ _ _) hgrow2 hown1 hat1 hlt1 hown2 hat2
              rw [e3] at hN
              have HNN := Lib.hid hN
              clear hN hgrow1 hgrow2 hown1 hat1 hlt1 hown2 hat2 hlt2
              go_wp2_with fail
              go_meet
              exact ⟨_, _, _, _, by rw [HSP.out, HSC.out]; exact HNN.out⟩
    · obtain rfl : r = kk := by omega
      have hT := Lib.hid hS.ti
      obtain ⟨aP, cP, rfl⟩ := own_slice hS.ti.p.own
      obtain ⟨aC, cC, rfl⟩ := own_slice hS.ti.c.own
      have h1 := hS.ti.t.cell 0 rfl
      have h2 := hS.ti.t.cell 1 rfl
      have h3 := hS.ti.res.cell 0 rfl
      have h4 := hS.ti.res.cell 1 rfl
      have h5 := hS.ti.res.free 0
      have h6 := hS.ti.res.free 1
      rw [hWs] at h1 h2 h3 h4 h5 h6
      clear hS
      go_wp2
      obtain ⟨e1, e2, e3⟩ := hT.out.done (.slice aP gP.length cP) (.slice aC gC.length cC)
      have hr2 := (hT.out.res.set 0 (.slice aP gP.length cP)).set 1 (.slice aC gC.length cC)
      have f0 := hr2.cell 0 (v := .slice aP gP.length cP) rfl
      have f1 := hr2.cell 1 (v := .slice aC gC.length cC) rfl
      have hbase : w.heap.size ≤ W.heap.size := by omega
      have e1 := e1.lower hbase
      have e2 := e2.lower hbase
      have e3 := HBW.out.trans (e3.mono hbase)
      rw [hWs] at e1 e2 e3 f0 f1
      exact bodyPost_ret (v := .agg #[.slice aP gP.length cP, .slice aC gC.length cC]) (by simp [results, Try.results20, go_sem, f0, f1]) rfl ⟨_, _, gP, gC, rfl, e1, e2, hT.out.sep, e3⟩

end Go.Proofs.Ytmoemalkojckaaa.J
