/- follow.writer.put. -/
import Derived.Test.YtaemajcpgmaapaaDoorFoll2
import Derived.Lib.Hide
namespace Go.Proofs.YtaemajcpgmaapaaDoor
open Go.RowKit

set_option maxRecDepth 100000 in
set_option maxHeartbeats 4000000 in
theorem fPut (rb : Nat) (cs : Array Value) (T : Nat) (v : Value) (l : List Op) (lo : Nat) (kind n : Int) (text : ByteArray) (va : Value) (la : List Attr) (S : Nat → Prop) (w : World)
    (hrb : w.heap[rb]? = some (.cells cs T (0, 0))) (hcs : cs[0]? = some v) (hlo : lo ≤ rb) (hT1 : T ≠ 30) (hT2 : T ≠ 102) (hown : OwnO lo w v l) (hva : Rd KA S w va la) (hft : Fits text)
    (hsz : ∀ x ∈ l, x.text.size + text.size ≤ 140737488355328) (hlen : (l.length + 1) * 56 ≤ 140737488355328) :
    Calls Tryd.prog 136 #[.pointer (some ⟨rb, 0, none⟩), .agg #[.int .i64 kind, .int .i64 n, .string text, va]] w fun e w' => e = .returned (.tuple #[]) ∧
      ∃ v', w'.heap[rb]? = some (.cells (cs.setIfInBounds 0 v') T (0, 0)) ∧ OwnO lo w' v' (putL l ⟨kind, n, text, la⟩) ∧ Chg (fun k => k = rb ∨ v.ownBlock = some k) w w' ∧ (v'.ownBlock = v.ownBlock ∨ ∃ k, v'.ownBlock = some k ∧ w.heap.size ≤ k) := by
  have hrbw : rb < w.heap.size := (Array.getElem?_eq_some_iff.1 hrb).1
  have hc0 : w.cell? ⟨rb, 0, none⟩ = some v := by rw [cell_of_row w rb 0 cs T (0, 0) hrb]; exact hcs
  have hfz : w.frozen? ⟨rb, 0, none⟩ = false := by simp [World.frozen?, hrb]
  obtain ⟨A, c, rfl, hAc, hr⟩ := hown.rd
  rcases List.eq_nil_or_concat l with rfl | ⟨l0, x, rfl⟩
  · obtain ⟨A2, c2, rfl, hA2, hr2⟩ := hva
    simp only [List.length_nil] at *
    go_enter Tryd.func136, Tryd.ntmps136
    go_wp2_with fail
    go_quiet (fail)
    have hb0 : Below w.heap.size w ((w.alloc (.cells #[.int .i64 kind, .int .i64 n, .string text, .slice A2 la.length c2] 30)).drewN nq) := below_drewN ((Below.refl _ _).alloc (Nat.le_refl _) _) _
    have hrd0 := Lib.hid (Rd.below ⟨A2, c2, rfl, hA2, hr2⟩ hb0)
    go_wp2_with (at_builtin; refine wpList_append_attrs0 rfl _ _ rfl la S rfl rfl hrd0.out ?_; intro v3 w1 hb1 ho1; have hq1 := (bcell hb1).1; have hq2 := (bcell hb1).2; have hb1' : Below w.heap.size w w1 := hb0.trans (hb1.mono hb0.size); (have hz1 : w.heap.size < w1.heap.size := by have := hb1.size; simp at this; omega); obtain ⟨A3, c3, rfl, hA3, hr3⟩ := ho1.rd; have hc1 := (hb1'.cell (p := ⟨rb, 0, none⟩) hrbw).trans hc0; have hfz1 := (hb1'.frozen (p := ⟨rb, 0, none⟩) hrbw).trans hfz)
    have hcg : Chg (fun k => k = w.heap.size) w (w1.setCell ⟨w.heap.size, 3, none⟩ (.slice A3 la.length c3)) := (Chg.of_below hb1' _).setCell _ fun _ => rfl
    have ho2 : OwnO lo (w1.setCell ⟨w.heap.size, 3, none⟩ (.slice A3 la.length c3)) _ _ := hown.chg hcg (fun k hk e => by have := (hown.lt k hk).2; omega) (fun k _ hk e => by obtain ⟨_, _, hk⟩ := hk; have := (Array.getElem?_eq_some_iff.1 hk).1; omega)
    have hoa2 : OwnA lo (w1.setCell ⟨w.heap.size, 3, none⟩ (.slice A3 la.length c3)) (.slice A3 la.length c3) la := (ho1.mono (by simp; omega)).chg (X := fun k => k = w.heap.size) ((Chg.refl _ w1).setCell _ fun _ => rfl) (fun k hk e => by have := (ho1.1.lt k hk).1; simp at this; omega)
    have hk0 : (w1.setCell ⟨w.heap.size, 3, none⟩ (.slice A3 la.length c3)).cell? ⟨w.heap.size, 0, none⟩ = some (.int .i64 kind) := (World.cell?_setCell_other _ _ _ _ (by simp)).trans ((hq1 w.heap.size 0 (by simp)).trans (cell_of_row _ w.heap.size 0 _ _ _ (heap_alloc_new w _)))
    have hk1 : (w1.setCell ⟨w.heap.size, 3, none⟩ (.slice A3 la.length c3)).cell? ⟨w.heap.size, 1, none⟩ = some (.int .i64 n) := (World.cell?_setCell_other _ _ _ _ (by simp)).trans ((hq1 w.heap.size 1 (by simp)).trans (cell_of_row _ w.heap.size 1 _ _ _ (heap_alloc_new w _)))
    have hk2 : (w1.setCell ⟨w.heap.size, 3, none⟩ (.slice A3 la.length c3)).cell? ⟨w.heap.size, 2, none⟩ = some (.string text) := (World.cell?_setCell_other _ _ _ _ (by simp)).trans ((hq1 w.heap.size 2 (by simp)).trans (cell_of_row _ w.heap.size 2 _ _ _ (heap_alloc_new w _)))
    have hk3 : (w1.setCell ⟨w.heap.size, 3, none⟩ (.slice A3 la.length c3)).cell? ⟨w.heap.size, 3, none⟩ = some (.slice A3 la.length c3) := World.cell?_setCell_same w1 _ _ ((hq1 w.heap.size 3 (by simp)).trans (cell_of_row _ w.heap.size 3 _ _ _ (heap_alloc_new w _)))
    have hrb2 : (w1.setCell ⟨w.heap.size, 3, none⟩ (.slice A3 la.length c3)).heap[rb]? = some (.cells cs T (0, 0)) := (hcg.block rb hrbw (by omega)).trans hrb
    have hz2 := hcg.size
    have hz3 : w.heap.size < (w1.setCell ⟨w.heap.size, 3, none⟩ (.slice A3 la.length c3)).heap.size := by simp [World.setCell]; omega
    generalize w1.setCell ⟨w.heap.size, 3, none⟩ (.slice A3 la.length c3) = W2 at *
    have hr2 : W2.cell? ⟨rb, 0, none⟩ = some (.slice A 0 c) := by rw [cell_of_row W2 rb 0 cs T (0, 0) hrb2]; exact hcs
    have hf2 : W2.frozen? ⟨rb, 0, none⟩ = false := by simp [World.frozen?, hrb2]
    have q1 : Hid (OwnO lo W2.drew (.slice A 0 c) []) := OwnO.below ho2 (Below.refl _ _).drew
    have q2 : Hid (OwnA lo W2.drew (.slice A3 la.length c3) la) := OwnA.below hoa2 (Below.refl _ _).drew
    have q3 : lo ≤ W2.heap.size := by omega
    have q5 : Hid (putL [] ⟨kind, n, text, la⟩ = [⟨kind, n, text, la⟩]) := rfl
    have q4 : Hid (∀ k, (Value.slice A 0 c).ownBlock = some k → k ≠ rb) := own_ne_blockO ho2 hrb2 hT1
    have hr2a : ∀ o, (W2.alloc o).cell? ⟨rb, 0, none⟩ = some (.slice A 0 c) := fun o => (World.cell?_of_block (Below.heap_alloc W2 o rb (by omega))).trans hr2
    go_region_law ((
      refine step_append_op1 (by rfl) (.tmp 76) (.tmp 78) (by rfl) lo (.slice A 0 c) [] 0 rfl ⟨kind, n, text, la⟩ (.slice A3 la.length c3) W2.heap.size (by simp [Act.eval]) (by simp [Act.eval]) (by simp) q1.out q2.out hft (by rfl) (by decide) (by simpa using q3) ?_
      intro g cap w3 hown3 hgrow hat
      have hrb3 := (hgrow.block rb (by simp; omega) (fun e => q4.out rb e.symm rfl)).trans hrb2
      have hr3 : w3.cell? ⟨rb, 0, none⟩ = some (.slice A 0 c) := (hgrow.cell_far ⟨rb, 0, none⟩ (by simp; omega) (fun e => q4.out rb e.symm rfl)).trans hr2
      have hf3 : w3.frozen? ⟨rb, 0, none⟩ = false := (hgrow.frozen_far ⟨rb, 0, none⟩ (by simp; omega) (fun e => q4.out rb e.symm rfl)).trans hf2))
    all_goals
      go_wp2
      refine bodyPost_end (results_none rfl _ _ _) rfl ⟨rfl, ?_⟩
      exact put_end hrb hcs hT1 hT2 hcg hgrow hrb3 hown3 hat hz2 q5.out
  · rw [List.concat_eq_append] at *
    obtain ⟨A2, c2, rfl, hA2, hr2⟩ := hva
    have e1 : (l0 ++ [x]).length = l0.length + 1 := by simp
    have hx := hsz x (by simp)
    rw [e1] at hcs hown hc0 hlen hAc ⊢
    obtain ⟨g0, rfl⟩ : ∃ g0, A = some ⟨g0, 0, none⟩ := by
      obtain ⟨ps, hps, h1, _, _⟩ := hown
      rcases h1.2 with ⟨h', _⟩ | ⟨g', cap', cur, h', _⟩
      · simp at h'
      · simp at h'
        exact ⟨g', by rw [h'.1]⟩
    obtain ⟨vx, hox, hfx, hx0, hx1, hx2, hx3, hxf⟩ := hown.last
    have hxf0 := hxf
    obtain ⟨A4, c4, rfl, hA4, hr4⟩ := hox.rd
    have hg0w : g0 < w.heap.size := (hown.lt g0 rfl).2
    have hwr : IntKind.i64.wrap ((l0.length + 1 : Nat) - 1 : Int) = l0.length := by have := hlen; rw [show ((l0.length + 1 : Nat) - 1 : Int) = (l0.length : Int) by omega, IntKind.wrap_i64]; omega
    have hwr2 : IntKind.i64.wrap ((l0.length : Int) + 1 - 1) = l0.length := by have := hlen; rw [show ((l0.length : Int) + 1 - 1) = (l0.length : Int) by omega, IntKind.wrap_i64]; omega
    have hlt1 : (l0.length : Int) < (l0.length + 1 : Nat) := by omega
    have hlt2 : (l0.length : Int) < (l0.length : Int) + 1 := by omega
    have hlt3 : (0 : Int) ≤ (l0.length : Int) := by omega
    have hgt : decide ((0 : Int) < (l0.length + 1 : Nat)) = true := by simp
    have cq := same_q (.slice A4 x.attrs.length c4) (.slice A2 la.length c2) x.attrs la (fun k => lo ≤ k) S
    by_cases hkd : x.kind = kind
    · cases hat : attrsEq x.attrs la with
      | true =>
        rw [hat] at cq
        subst hkd
        have hke : (x.kind == x.kind) = true := by simp
        go_enter Tryd.func136, Tryd.ntmps136
        go_wp2_with fail
        go_quiet (first | (go_at_call 98; refine Calls.quiet_of (cq _ ?_ ?_); exact Rd.below ⟨A4, c4, rfl, hA4, hr4⟩ (below_drewN ((Below.refl _ _).alloc (Nat.le_refl _) _) _); exact Rd.below ⟨A2, c2, rfl, hA2, hr2⟩ (below_drewN ((Below.refl _ _).alloc (Nat.le_refl _) _) _)))
        have hb0 : Below w.heap.size w ((w.alloc (.cells #[.int .i64 x.kind, .int .i64 n, .string text, .slice A2 la.length c2] 30)).drewN nq) := below_drewN ((Below.refl _ _).alloc (Nat.le_refl _) _) _
        have p1 := (hb0.cell (p := ⟨rb, 0, none⟩) hrbw).trans hc0
        have p2 := (hb0.frozen (p := ⟨rb, 0, none⟩) hrbw).trans hfz
        have p3 := (hb0.cell (p := ⟨g0, l0.length * 4 + 1, none⟩) hg0w).trans hx1
        have p4 := (hb0.cell (p := ⟨g0, l0.length * 4 + 2, none⟩) hg0w).trans hx2
        have p5 := (hb0.frozen (p := ⟨g0, l0.length * 4 + 1, none⟩) hg0w).trans (hxf _)
        have p6 := (hb0.frozen (p := ⟨g0, l0.length * 4 + 2, none⟩) hg0w).trans (hxf _)
        have p7 : ((w.alloc (.cells #[.int .i64 x.kind, .int .i64 n, .string text, .slice A2 la.length c2] 30)).drewN nq).cell? ⟨w.heap.size, 1, none⟩ = some (.int .i64 n) := cell_of_row _ w.heap.size 1 _ _ _ (heap_alloc_new w _)
        have p8 : ((w.alloc (.cells #[.int .i64 x.kind, .int .i64 n, .string text, .slice A2 la.length c2] 30)).drewN nq).cell? ⟨w.heap.size, 2, none⟩ = some (.string text) := cell_of_row _ w.heap.size 2 _ _ _ (heap_alloc_new w _)
        have ne1 : g0 ≠ rb := own_ne_blockO hown hrb hT1 g0 rfl
        have ne2 : g0 ≠ w.heap.size := by omega
        have ne3 : rb ≠ w.heap.size := by omega
        generalize ((w.alloc (.cells #[.int .i64 x.kind, .int .i64 n, .string text, .slice A2 la.length c2] 30)).drewN nq) = W1 at *
        go_wp2_with fail
        go_region
        have p9 : (W1.setCell ⟨g0, l0.length * 4 + 1, none⟩ (.int .i64 (wrap64 (x.n + n)))).cell? ⟨rb, 0, none⟩ = some (.slice (some ⟨g0, 0, none⟩) (l0.length + 1) c) := (World.cell?_setCell_other _ _ _ _ (by simp)).trans p1
        have p10 : (W1.setCell ⟨g0, l0.length * 4 + 1, none⟩ (.int .i64 (wrap64 (x.n + n)))).cell? ⟨g0, l0.length * 4 + 2, none⟩ = some (.string x.text) := (World.cell?_setCell_other _ _ _ _ (by simp)).trans p4
        have p11 : (W1.setCell ⟨g0, l0.length * 4 + 1, none⟩ (.int .i64 (wrap64 (x.n + n)))).cell? ⟨w.heap.size, 2, none⟩ = some (.string text) := (World.cell?_setCell_other _ _ _ _ (by simp)).trans p8
        have p12 : (W1.setCell ⟨g0, l0.length * 4 + 1, none⟩ (.int .i64 (wrap64 (x.n + n)))).frozen? ⟨g0, l0.length * 4 + 2, none⟩ = false := by simp [p6]
        go_wp2_with fail
        go_region
        go_wp2_with fail
        refine bodyPost_ret (results_none rfl _ _ _) rfl ⟨rfl, ?_⟩
        exact put_join hrb hcs hT1 hown hb0 hx hat rfl rfl
      | false =>
        rw [hat] at cq
        have hno : (x.kind == kind && attrsEq x.attrs la) = false := by simp [hat]
        have hke : (x.kind == kind) = true := by simp [hkd]
        go_enter Tryd.func136, Tryd.ntmps136
        go_wp2_with fail
        go_quiet (first | (go_at_call 98; refine Calls.quiet_of (cq _ ?_ ?_); exact Rd.below ⟨A4, c4, rfl, hA4, hr4⟩ (below_drewN ((Below.refl _ _).alloc (Nat.le_refl _) _) _); exact Rd.below ⟨A2, c2, rfl, hA2, hr2⟩ (below_drewN ((Below.refl _ _).alloc (Nat.le_refl _) _) _)))
        have hb0 : Below w.heap.size w ((w.alloc (.cells #[.int .i64 kind, .int .i64 n, .string text, .slice A2 la.length c2] 30)).drewN nq) := below_drewN ((Below.refl _ _).alloc (Nat.le_refl _) _) _
        have hrd0 := Lib.hid (Rd.below ⟨A2, c2, rfl, hA2, hr2⟩ hb0)
        go_wp2_with (at_builtin; refine wpList_append_attrs0 rfl _ _ rfl la S rfl rfl hrd0.out ?_; intro v3 w1 hb1 ho1; have hq1 := (bcell hb1).1; have hq2 := (bcell hb1).2; have hb1' : Below w.heap.size w w1 := hb0.trans (hb1.mono hb0.size); (have hz1 : w.heap.size < w1.heap.size := by have := hb1.size; simp at this; omega); obtain ⟨A3, c3, rfl, hA3, hr3⟩ := ho1.rd; have hc1 := (hb1'.cell (p := ⟨rb, 0, none⟩) hrbw).trans hc0; have hfz1 := (hb1'.frozen (p := ⟨rb, 0, none⟩) hrbw).trans hfz)
        have hcg : Chg (fun k => k = w.heap.size) w (w1.setCell ⟨w.heap.size, 3, none⟩ (.slice A3 la.length c3)) := (Chg.of_below hb1' _).setCell _ fun _ => rfl
        have ho2 : OwnO lo (w1.setCell ⟨w.heap.size, 3, none⟩ (.slice A3 la.length c3)) _ _ := hown.chg hcg (fun k hk e => by have := (hown.lt k hk).2; omega) (fun k _ hk e => by obtain ⟨_, _, hk⟩ := hk; have := (Array.getElem?_eq_some_iff.1 hk).1; omega)
        have hoa2 : OwnA lo (w1.setCell ⟨w.heap.size, 3, none⟩ (.slice A3 la.length c3)) (.slice A3 la.length c3) la := (ho1.mono (by simp; omega)).chg (X := fun k => k = w.heap.size) ((Chg.refl _ w1).setCell _ fun _ => rfl) (fun k hk e => by have := (ho1.1.lt k hk).1; simp at this; omega)
        have hk0 : (w1.setCell ⟨w.heap.size, 3, none⟩ (.slice A3 la.length c3)).cell? ⟨w.heap.size, 0, none⟩ = some (.int .i64 kind) := (World.cell?_setCell_other _ _ _ _ (by simp)).trans ((hq1 w.heap.size 0 (by simp)).trans (cell_of_row _ w.heap.size 0 _ _ _ (heap_alloc_new w _)))
        have hk1 : (w1.setCell ⟨w.heap.size, 3, none⟩ (.slice A3 la.length c3)).cell? ⟨w.heap.size, 1, none⟩ = some (.int .i64 n) := (World.cell?_setCell_other _ _ _ _ (by simp)).trans ((hq1 w.heap.size 1 (by simp)).trans (cell_of_row _ w.heap.size 1 _ _ _ (heap_alloc_new w _)))
        have hk2 : (w1.setCell ⟨w.heap.size, 3, none⟩ (.slice A3 la.length c3)).cell? ⟨w.heap.size, 2, none⟩ = some (.string text) := (World.cell?_setCell_other _ _ _ _ (by simp)).trans ((hq1 w.heap.size 2 (by simp)).trans (cell_of_row _ w.heap.size 2 _ _ _ (heap_alloc_new w _)))
        have hk3 : (w1.setCell ⟨w.heap.size, 3, none⟩ (.slice A3 la.length c3)).cell? ⟨w.heap.size, 3, none⟩ = some (.slice A3 la.length c3) := World.cell?_setCell_same w1 _ _ ((hq1 w.heap.size 3 (by simp)).trans (cell_of_row _ w.heap.size 3 _ _ _ (heap_alloc_new w _)))
        have hrb2 : (w1.setCell ⟨w.heap.size, 3, none⟩ (.slice A3 la.length c3)).heap[rb]? = some (.cells cs T (0, 0)) := (hcg.block rb hrbw (by omega)).trans hrb
        have hz2 := hcg.size
        have hz3 : w.heap.size < (w1.setCell ⟨w.heap.size, 3, none⟩ (.slice A3 la.length c3)).heap.size := by simp [World.setCell]; omega
        generalize w1.setCell ⟨w.heap.size, 3, none⟩ (.slice A3 la.length c3) = W2 at *
        have hr2' : W2.cell? ⟨rb, 0, none⟩ = some (.slice (some ⟨g0, 0, none⟩) (l0.length + 1) c) := by rw [cell_of_row W2 rb 0 cs T (0, 0) hrb2]; exact hcs
        have hf2 : W2.frozen? ⟨rb, 0, none⟩ = false := by simp [World.frozen?, hrb2]
        have q1 : Hid (OwnO lo W2.drew (.slice (some ⟨g0, 0, none⟩) (l0.length + 1) c) (l0 ++ [x])) := OwnO.below ho2 (Below.refl _ _).drew
        have q2 : Hid (OwnA lo W2.drew (.slice A3 la.length c3) la) := OwnA.below hoa2 (Below.refl _ _).drew
        have q3 : lo ≤ W2.heap.size := by omega
        have q5 : Hid (putL (l0 ++ [x]) ⟨kind, n, text, la⟩ = (l0 ++ [x]) ++ [⟨kind, n, text, la⟩]) := by unfold Hid; simp [putL, opLike, hno]
        have q4 : Hid (∀ k, (Value.slice (some ⟨g0, 0, none⟩) (l0.length + 1) c).ownBlock = some k → k ≠ rb) := own_ne_blockO ho2 hrb2 hT1
        have hr2a : ∀ o, (W2.alloc o).cell? ⟨rb, 0, none⟩ = some (.slice (some ⟨g0, 0, none⟩) (l0.length + 1) c) := fun o => (World.cell?_of_block (Below.heap_alloc W2 o rb (by omega))).trans hr2'
        go_region_law ((
          refine step_append_op1 (by rfl) (.tmp 76) (.tmp 78) (by rfl) lo (.slice (some ⟨g0, 0, none⟩) (l0.length + 1) c) (l0 ++ [x]) (l0.length + 1) e1 ⟨kind, n, text, la⟩ (.slice A3 la.length c3) W2.heap.size (by simp [Act.eval]) (by simp [Act.eval]) (by simp) q1.out q2.out hft (by rfl) hlen (by simpa using q3) ?_
          intro g cap w3 hown3 hgrow hat
          have hrb3 := (hgrow.block rb (by simp; omega) (fun e => q4.out rb e.symm rfl)).trans hrb2
          have hr3 : w3.cell? ⟨rb, 0, none⟩ = some (.slice (some ⟨g0, 0, none⟩) (l0.length + 1) c) := (hgrow.cell_far ⟨rb, 0, none⟩ (by simp; omega) (fun e => q4.out rb e.symm rfl)).trans hr2'
          have hf3 : w3.frozen? ⟨rb, 0, none⟩ = false := (hgrow.frozen_far ⟨rb, 0, none⟩ (by simp; omega) (fun e => q4.out rb e.symm rfl)).trans hf2))
        all_goals
          go_wp2
          refine bodyPost_end (results_none rfl _ _ _) rfl ⟨rfl, ?_⟩
          exact put_end hrb hcs hT1 hT2 hcg hgrow hrb3 hown3 hat hz2 q5.out
    · have hno : (x.kind == kind && attrsEq x.attrs la) = false := by simp [hkd]
      have hke : (x.kind == kind) = false := by simp [hkd]
      go_enter Tryd.func136, Tryd.ntmps136
      go_wp2_with fail
      go_quiet (fail)
      have hb0 : Below w.heap.size w ((w.alloc (.cells #[.int .i64 kind, .int .i64 n, .string text, .slice A2 la.length c2] 30)).drewN nq) := below_drewN ((Below.refl _ _).alloc (Nat.le_refl _) _) _
      have hrd0 := Lib.hid (Rd.below ⟨A2, c2, rfl, hA2, hr2⟩ hb0)
      go_wp2_with (at_builtin; refine wpList_append_attrs0 rfl _ _ rfl la S rfl rfl hrd0.out ?_; intro v3 w1 hb1 ho1; have hq1 := (bcell hb1).1; have hq2 := (bcell hb1).2; have hb1' : Below w.heap.size w w1 := hb0.trans (hb1.mono hb0.size); (have hz1 : w.heap.size < w1.heap.size := by have := hb1.size; simp at this; omega); obtain ⟨A3, c3, rfl, hA3, hr3⟩ := ho1.rd; have hc1 := (hb1'.cell (p := ⟨rb, 0, none⟩) hrbw).trans hc0; have hfz1 := (hb1'.frozen (p := ⟨rb, 0, none⟩) hrbw).trans hfz)
      have hcg : Chg (fun k => k = w.heap.size) w (w1.setCell ⟨w.heap.size, 3, none⟩ (.slice A3 la.length c3)) := (Chg.of_below hb1' _).setCell _ fun _ => rfl
      have ho2 : OwnO lo (w1.setCell ⟨w.heap.size, 3, none⟩ (.slice A3 la.length c3)) _ _ := hown.chg hcg (fun k hk e => by have := (hown.lt k hk).2; omega) (fun k _ hk e => by obtain ⟨_, _, hk⟩ := hk; have := (Array.getElem?_eq_some_iff.1 hk).1; omega)
      have hoa2 : OwnA lo (w1.setCell ⟨w.heap.size, 3, none⟩ (.slice A3 la.length c3)) (.slice A3 la.length c3) la := (ho1.mono (by simp; omega)).chg (X := fun k => k = w.heap.size) ((Chg.refl _ w1).setCell _ fun _ => rfl) (fun k hk e => by have := (ho1.1.lt k hk).1; simp at this; omega)
      have hk0 : (w1.setCell ⟨w.heap.size, 3, none⟩ (.slice A3 la.length c3)).cell? ⟨w.heap.size, 0, none⟩ = some (.int .i64 kind) := (World.cell?_setCell_other _ _ _ _ (by simp)).trans ((hq1 w.heap.size 0 (by simp)).trans (cell_of_row _ w.heap.size 0 _ _ _ (heap_alloc_new w _)))
      have hk1 : (w1.setCell ⟨w.heap.size, 3, none⟩ (.slice A3 la.length c3)).cell? ⟨w.heap.size, 1, none⟩ = some (.int .i64 n) := (World.cell?_setCell_other _ _ _ _ (by simp)).trans ((hq1 w.heap.size 1 (by simp)).trans (cell_of_row _ w.heap.size 1 _ _ _ (heap_alloc_new w _)))
      have hk2 : (w1.setCell ⟨w.heap.size, 3, none⟩ (.slice A3 la.length c3)).cell? ⟨w.heap.size, 2, none⟩ = some (.string text) := (World.cell?_setCell_other _ _ _ _ (by simp)).trans ((hq1 w.heap.size 2 (by simp)).trans (cell_of_row _ w.heap.size 2 _ _ _ (heap_alloc_new w _)))
      have hk3 : (w1.setCell ⟨w.heap.size, 3, none⟩ (.slice A3 la.length c3)).cell? ⟨w.heap.size, 3, none⟩ = some (.slice A3 la.length c3) := World.cell?_setCell_same w1 _ _ ((hq1 w.heap.size 3 (by simp)).trans (cell_of_row _ w.heap.size 3 _ _ _ (heap_alloc_new w _)))
      have hrb2 : (w1.setCell ⟨w.heap.size, 3, none⟩ (.slice A3 la.length c3)).heap[rb]? = some (.cells cs T (0, 0)) := (hcg.block rb hrbw (by omega)).trans hrb
      have hz2 := hcg.size
      have hz3 : w.heap.size < (w1.setCell ⟨w.heap.size, 3, none⟩ (.slice A3 la.length c3)).heap.size := by simp [World.setCell]; omega
      generalize w1.setCell ⟨w.heap.size, 3, none⟩ (.slice A3 la.length c3) = W2 at *
      have hr2' : W2.cell? ⟨rb, 0, none⟩ = some (.slice (some ⟨g0, 0, none⟩) (l0.length + 1) c) := by rw [cell_of_row W2 rb 0 cs T (0, 0) hrb2]; exact hcs
      have hf2 : W2.frozen? ⟨rb, 0, none⟩ = false := by simp [World.frozen?, hrb2]
      have q1 : Hid (OwnO lo W2.drew (.slice (some ⟨g0, 0, none⟩) (l0.length + 1) c) (l0 ++ [x])) := OwnO.below ho2 (Below.refl _ _).drew
      have q2 : Hid (OwnA lo W2.drew (.slice A3 la.length c3) la) := OwnA.below hoa2 (Below.refl _ _).drew
      have q3 : lo ≤ W2.heap.size := by omega
      have q5 : Hid (putL (l0 ++ [x]) ⟨kind, n, text, la⟩ = (l0 ++ [x]) ++ [⟨kind, n, text, la⟩]) := by unfold Hid; simp [putL, opLike, hno]
      have q4 : Hid (∀ k, (Value.slice (some ⟨g0, 0, none⟩) (l0.length + 1) c).ownBlock = some k → k ≠ rb) := own_ne_blockO ho2 hrb2 hT1
      have hr2a : ∀ o, (W2.alloc o).cell? ⟨rb, 0, none⟩ = some (.slice (some ⟨g0, 0, none⟩) (l0.length + 1) c) := fun o => (World.cell?_of_block (Below.heap_alloc W2 o rb (by omega))).trans hr2'
      go_region_law ((
        refine step_append_op1 (by rfl) (.tmp 76) (.tmp 78) (by rfl) lo (.slice (some ⟨g0, 0, none⟩) (l0.length + 1) c) (l0 ++ [x]) (l0.length + 1) e1 ⟨kind, n, text, la⟩ (.slice A3 la.length c3) W2.heap.size (by simp [Act.eval]) (by simp [Act.eval]) (by simp) q1.out q2.out hft (by rfl) hlen (by simpa using q3) ?_
        intro g cap w3 hown3 hgrow hat
        have hrb3 := (hgrow.block rb (by simp; omega) (fun e => q4.out rb e.symm rfl)).trans hrb2
        have hr3 : w3.cell? ⟨rb, 0, none⟩ = some (.slice (some ⟨g0, 0, none⟩) (l0.length + 1) c) := (hgrow.cell_far ⟨rb, 0, none⟩ (by simp; omega) (fun e => q4.out rb e.symm rfl)).trans hr2'
        have hf3 : w3.frozen? ⟨rb, 0, none⟩ = false := (hgrow.frozen_far ⟨rb, 0, none⟩ (by simp; omega) (fun e => q4.out rb e.symm rfl)).trans hf2))
      all_goals
        go_wp2
        refine bodyPost_end (results_none rfl _ _ _) rfl ⟨rfl, ?_⟩
        exact put_end hrb hcs hT1 hT2 hcg hgrow hrb3 hown3 hat hz2 q5.out
end Go.Proofs.YtaemajcpgmaapaaDoor
