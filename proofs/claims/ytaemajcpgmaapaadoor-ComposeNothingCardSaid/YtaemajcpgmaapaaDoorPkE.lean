/- The walk: change.Normal. | change.Nothing; change.Same and what it calls. | slices.EqualFunc as change.Same uses it; change.Same; change.Is. | From the form's reading of an argument to what the walks ask: rows of attributes, of operations, of runs, of changesets. | From the form's reading of an argument to what the walks ask: rows of runs, rows of changesets. -/
import Derived.Test.YtaemajcpgmaapaaDoorPkD
import Derived.Test.YtaemajcpgmaapaaDoorShelf
import Derived.Test.YtaemajcpgmaapaaDoorPkA
import Derived.Deep.Slices
import Derived.Deep.SlicePairs
import Derived.Lib.SmallJoins
import Derived.WideShapes
import Derived.RowKit
import Derived.KernelRfl
namespace Go.Proofs.YtaemajcpgmaapaaDoor
open Go.RowKit

/-- What Normal holds between its rounds. -/
structure NInv (w wr : World) (B1 B2 mb : Nat) (f : Int) (vo v : Value) (s : List Op × Int) : Prop where
  below : Below w.heap.size w wr
  c1 : wr.heap[B1]? = some (.cells #[.int .i64 f, vo] 24 (0, 0))
  c2 : wr.heap[B2]? = some (.cells #[.int .i64 0, .slice none 0 0] 24 (0, 0))
  m : wr.heap[mb]? = some (.cells #[v, .int .i64 s.2] 97 (0, 0))
  own : OwnO w.heap.size wr v s.1
  l1 : w.heap.size ≤ mb
theorem NInv.step {w wr w' : World} {B1 B2 mb : Nat} {f : Int} {vo v v' : Value} {s s' : List Op × Int} (h : NInv w wr B1 B2 mb f vo v s) (hc : Chg (fun k => k = mb ∨ v.ownBlock = some k) wr w')
    (hm : w'.heap[mb]? = some (.cells #[v', .int .i64 s'.2] 97 (0, 0))) (ho : OwnO w.heap.size w' v' s'.1) : NInv w w' B1 B2 mb f vo v' s' := by
  have hne : ∀ B cs, wr.heap[B]? = some (.cells cs 24 (0, 0)) → ¬ (B = mb ∨ v.ownBlock = some B) := by
    intro B cs hB e
    rcases e with e | e
    · subst e
      have := h.m
      rw [hB] at this
      injection this with this
      injection this with _ ht
      exact absurd ht (by decide)
    · exact own_ne_blockO h.own hB (by decide) B e rfl
  refine ⟨h.below.trans (hc.below h.below.size fun k hk => ?_), (hc.block B1 (Array.getElem?_eq_some_iff.1 h.c1).1 (hne _ _ h.c1)).trans h.c1, (hc.block B2 (Array.getElem?_eq_some_iff.1 h.c2).1 (hne _ _ h.c2)).trans h.c2, hm, ho, h.l1⟩
  rcases hk with hk | hk
  · rw [hk]; exact h.l1
  · exact (h.own.lt k hk).1

theorem normal_end (w : World) (a : Act) (W : World) {f : Int} {l L : List Op} {A3 : Option Addr} {n : Nat} (hb : Below w.heap.size w W) (b2 : W.heap[w.heap.size + 1]? = some (.cells #[.int .i64 0, .slice none 0 0] 24 (0, 0)))
    (hN : nmR ⟨f, l⟩ = (⟨f, normL l⟩, 0)) (hL : normL l = L) (hr : RowO w.heap.size W (.slice A3 n n) L) (hs3 : a.tmps[3]?.getD undef = .int .i64 0) (hs2 : a.tmps[2]?.getD undef = .pointer (some ⟨w.heap.size + 1, 0, none⟩)) (hd : a.defers = []) :
    bodyPost Tryd.prog Tryd.f36 (fun e w' => ∃ v', e = .returned (.tuple #[.agg #[.int .i64 (nmR ⟨f, l⟩).1.from_, v'], .int .i64 (nmR ⟨f, l⟩).2]) ∧ Below w.heap.size w w' ∧ RowO w.heap.size w' v' (nmR ⟨f, l⟩).1.ops) .ret a ((W.setCell ⟨w.heap.size + 1, 0, none⟩ (.int .i64 f)).setCell ⟨w.heap.size + 1, 1, none⟩ (.slice A3 n n)).drew := by
  have k5 : W.cell? ⟨w.heap.size + 1, 0, none⟩ = some (.int .i64 0) := cell_of_row _ _ 0 _ _ _ b2
  have k6 : W.cell? ⟨w.heap.size + 1, 1, none⟩ = some (.slice none 0 0) := cell_of_row _ _ 1 _ _ _ b2
  have r0 : ((W.setCell ⟨w.heap.size + 1, 0, none⟩ (.int .i64 f)).setCell ⟨w.heap.size + 1, 1, none⟩ (.slice A3 n n)).cell? ⟨w.heap.size + 1, 0, none⟩ = some (.int .i64 f) := (World.cell?_setCell_other _ _ _ _ (by simp)).trans (World.cell?_setCell_same _ _ _ k5)
  have r1 : ((W.setCell ⟨w.heap.size + 1, 0, none⟩ (.int .i64 f)).setCell ⟨w.heap.size + 1, 1, none⟩ (.slice A3 n n)).cell? ⟨w.heap.size + 1, 1, none⟩ = some (.slice A3 n n) := World.cell?_setCell_same _ _ _ ((World.cell?_setCell_other _ _ _ _ (by simp)).trans k6)
  have hc : Chg (fun k => k = w.heap.size + 1) W ((W.setCell ⟨w.heap.size + 1, 0, none⟩ (.int .i64 f)).setCell ⟨w.heap.size + 1, 1, none⟩ (.slice A3 n n)).drew :=
    (((Chg.refl (fun k => k = w.heap.size + 1) W).setCell (p := ⟨w.heap.size + 1, 0, none⟩) _ fun _ => rfl).setCell (p := ⟨w.heap.size + 1, 1, none⟩) _ fun _ => rfl).drew
  subst hL
  rw [hN]
  refine bodyPost_ret (v := .tuple #[.agg #[.int .i64 f, .slice A3 n n], .int .i64 0]) ?_ hd ⟨.slice A3 n n, rfl, ?_, ?_⟩
  · simp [results, Tryd.results36, go_sem, r0, r1, hs2, hs3]
  · exact hb.trans (hc.below hb.size fun k hk => by rw [hk]; omega)
  · refine hr.chg hc (fun k hk e => ?_) (fun k _ hk e => ?_)
    · obtain ⟨_, _, cur, hk⟩ := hr.lt k hk
      subst e
      rw [b2] at hk
      injection hk with hk
      injection hk with _ ht
      exact absurd ht (by decide)
    · obtain ⟨cs', fr, hk⟩ := hk
      subst e
      rw [b2] at hk
      injection hk with hk
      injection hk with _ ht
      exact absurd ht (by decide)

set_option maxRecDepth 100000 in
set_option maxHeartbeats 4000000 in
theorem normal_ch (f : Int) (vo : Value) (l : List Op) (S : Nat → Prop) (w : World) (h : Rd KO S w vo l) (hT : Tabs w) :
    Calls Tryd.prog 36 #[.agg #[.int .i64 f, vo]] w fun e w' => ∃ v', e = .returned (.tuple #[.agg #[.int .i64 (nmR ⟨f, l⟩).1.from_, v'], .int .i64 (nmR ⟨f, l⟩).2]) ∧ Below w.heap.size w w' ∧ RowO w.heap.size w' v' (nmR ⟨f, l⟩).1.ops := by
  have cr := right_ch f vo l S
  obtain ⟨A, c, rfl, hA, hr⟩ := h
  have hlen := hr.len
  obtain ⟨er, HR⟩ : ∃ er, Hid ((toR ⟨f, l⟩).2 = er) := ⟨_, rfl⟩
  rw [HR.out] at cr
  have hb0 : Below w.heap.size w ((w.alloc (.cells #[.int .i64 f, .slice A l.length c] 24)).alloc (.cells #[.int .i64 0, .slice none 0 0] 24)) := ((Below.refl _ _).alloc (Nat.le_refl _) _).alloc (by simp) _
  by_cases he : er = 0
  · subst he
    have HN : Hid (nmR ⟨f, l⟩ = (⟨f, normL l⟩, 0)) := by unfold Hid nmR; rw [if_pos HR.out]
    go_enter Tryd.func36, Tryd.ntmps36
    go_wp2_with fail
    refine (cr _ (Rd.below ⟨A, c, rfl, hA, hr⟩ hb0) (hT.below hb0)).mono ?_
    rintro e w1 ⟨rfl, hb1⟩
    have k1 : w1.heap[w.heap.size]? = some (.cells #[.int .i64 f, .slice A l.length c] 24 (0, 0)) := (hb1.block _ (by simp; omega)).trans ((Below.heap_alloc _ _ _ (by simp)).trans (heap_alloc_new w _))
    have k2 : w1.heap[w.heap.size + 1]? = some (.cells #[.int .i64 0, .slice none 0 0] 24 (0, 0)) := (hb1.block _ (by simp)).trans (by simpa using heap_alloc_new (w.alloc (.cells #[.int .i64 f, .slice A l.length c] 24)) (.cells #[.int .i64 0, .slice none 0 0] 24))
    have hz1 : w.heap.size + 2 ≤ w1.heap.size := by have := hb1.size; simp at this; omega
    have hbw : Below w.heap.size w w1 := hb0.trans (hb1.mono hb0.size)
    have k3 : w1.cell? ⟨w.heap.size, 0, none⟩ = some (.int .i64 f) := cell_of_row w1 _ 0 _ _ _ k1
    have k4 : w1.cell? ⟨w.heap.size, 1, none⟩ = some (.slice A l.length c) := cell_of_row w1 _ 1 _ _ _ k1
    have k5 : w1.cell? ⟨w.heap.size + 1, 0, none⟩ = some (.int .i64 0) := cell_of_row w1 _ 0 _ _ _ k2
    have k6 : w1.cell? ⟨w.heap.size + 1, 1, none⟩ = some (.slice none 0 0) := cell_of_row w1 _ 1 _ _ _ k2
    have k7 : w1.frozen? ⟨w.heap.size + 1, 0, none⟩ = false := by simp [World.frozen?, k2]
    have k8 : w1.frozen? ⟨w.heap.size + 1, 1, none⟩ = false := by simp [World.frozen?, k2]
    have k4a : ∀ o, (w1.alloc o).cell? ⟨w.heap.size, 1, none⟩ = some (.slice A l.length c) := fun o => (World.cell?_of_block (Below.heap_alloc w1 o _ (by show w.heap.size < _; omega))).trans k4
    clear hb1
    go_wp2_with fail
    have inv0 : NInv w (w1.alloc (.cells #[.slice none 0 0, .int .i64 0] 97)) w.heap.size (w.heap.size + 1) w1.heap.size f (.slice A l.length c) (.slice none 0 0) ([], 0) :=
      ⟨hbw.alloc hbw.size _, (Below.heap_alloc w1 _ _ (by omega)).trans k1, (Below.heap_alloc w1 _ _ (by omega)).trans k2, heap_alloc_new w1 _, OwnO.nil _ _, hbw.size⟩
    have hOk := toR_ok HR.out
    have hl2 := hOk.2.2.1
    have hOps : Hid (∀ o ∈ l, opOk o) := hOk.2.2.2
    simp only at hl2
    clear hOk k1 k2 k3 k4 k5 k6 k7 k8 k4a
    generalize w1.alloc (.cells #[.slice none 0 0, .int .i64 0] 97) = W2 at *
    go_loopg [18] (l.length + 1) (fun g s18 wr => ∃ (k : Nat) (v : Value) (st : List Op × Int), k ≤ l.length ∧ l.length - k < g ∧ s18 = .int .i64 k ∧ NInv w wr w.heap.size (w.heap.size + 1) w1.heap.size f (.slice A l.length c) v st ∧ NB k st ∧ Aside ((l.drop k).foldl nStep st = l.foldl nStep ([], 0)))
    case atStart => exact ⟨0, _, _, Nat.zero_le _, by omega, rfl, inv0, ⟨by simp, by simp⟩, rfl⟩
    case round =>
      obtain ⟨k, v, ⟨sl, sg⟩, hk, hg, rfl, inv, hnb, Ad⟩ := hrel
      have hm : wr.heap[w1.heap.size]? = some (.cells #[v, .int .i64 sg] 97 (0, 0)) := inv.m
      have hmbw : w1.heap.size < wr.heap.size := (Array.getElem?_eq_some_iff.1 hm).1
      have hb := inv.below
      by_cases hlt : k < l.length
      · have hlz : (k : Int) < (l.length : Int) := by omega
        obtain ⟨b, o, A2, c2, rfl, hS, hbw0, hc0, hc1, hc2, hc3, hva, hft⟩ := hr.ops k hlt
        have hd0 := (hb.cell (p := ⟨b, o + k * 4, none⟩) hbw0).trans hc0
        have hd1 := (hb.cell (p := ⟨b, o + k * 4 + 1, none⟩) hbw0).trans hc1
        have hd2 := (hb.cell (p := ⟨b, o + k * 4 + 2, none⟩) hbw0).trans hc2
        have hd3 := (hb.cell (p := ⟨b, o + k * 4 + 3, none⟩) hbw0).trans hc3
        have hop := hOps.out l[k] (List.getElem_mem hlt)
        have hsz := hop.size
        have hstep : (l.drop k).foldl nStep (sl, sg) = (l.drop (k + 1)).foldl nStep (nStep (sl, sg) l[k]) := by rw [List.drop_eq_getElem_cons hlt]; rfl
        have hnb2 := hnb.step hsz
        have Ad2 : Aside ((l.drop (k + 1)).foldl nStep (nStep (sl, sg) l[k]) = l.foldl nStep ([], 0)) := hstep.symm.trans Ad
        generalize l[k] = op at *
        clear hc0 hc1 hc2 hc3 hstep Ad
        have hownlt := inv.own.lt
        have hbl := hnb.1
        have hbt := hnb.2
        have hbx : Below wr.heap.size wr (wr.alloc (.cells #[.int .i64 op.kind, .int .i64 op.n, .string op.text, .slice A2 op.attrs.length c2] 30)) := (Below.refl _ _).alloc (Nat.le_refl _) _
        have hbxc := heap_alloc_new wr (.cells #[.int .i64 op.kind, .int .i64 op.n, .string op.text, .slice A2 op.attrs.length c2] 30)
        by_cases h1 : op.kind = 1
        · have hk1 : (op.kind == 1) = true := by simp [h1]
          have HS : Hid (nStep (sl, sg) op = (putL (flushL (sl, sg)).1 op, (flushL (sl, sg)).2)) := by unfold Hid nStep; rw [if_pos h1]
          have HK := Lib.hid h1
          clear h1
          have hfl := fun W (hb : Below wr.heap.size wr W) => flush_ch w1.heap.size 97 v sl sg w.heap.size W ((hb.block w1.heap.size hmbw).trans hm) inv.l1 (by decide) (by decide) (inv.own.below hb) (by (try dsimp only at hbl); omega)
          have hfb := flushL_bd (s := (sl, sg)) hbt
          generalize flushL (sl, sg) = fs at *
          obtain ⟨fl, fg⟩ := fs
          go_wp2_with fail
          with_reducible refine (hfl _ hbx).mono ?_
          rintro e w3 ⟨rfl, v3, hm3, ho3, hc3, hv3⟩
          try dsimp only at hm3 ho3
          have hbx3 : w3.heap[wr.heap.size]? = some (.cells #[.int .i64 op.kind, .int .i64 op.n, .string op.text, .slice A2 op.attrs.length c2] 30 (0, 0)) :=
            (hc3.block wr.heap.size (by simp) (fun e => e.elim (fun e => by omega) (fun e => by have := hownlt _ e; omega))).trans hbxc
          have j0 : w3.cell? ⟨wr.heap.size, 0, none⟩ = some (.int .i64 op.kind) := cell_of_row w3 _ 0 _ _ _ hbx3
          have j1 : w3.cell? ⟨wr.heap.size, 1, none⟩ = some (.int .i64 op.n) := cell_of_row w3 _ 1 _ _ _ hbx3
          have j2 : w3.cell? ⟨wr.heap.size, 2, none⟩ = some (.string op.text) := cell_of_row w3 _ 2 _ _ _ hbx3
          have j3 : w3.cell? ⟨wr.heap.size, 3, none⟩ = some (.slice A2 op.attrs.length c2) := cell_of_row w3 _ 3 _ _ _ hbx3
          have hcw : Chg (fun k => k = w1.heap.size ∨ v.ownBlock = some k) wr w3 := Chg.trans (X := fun k => k = w1.heap.size ∨ v.ownBlock = some k) (Chg.of_below hbx _) hc3 fun k _ h => h
          have hbw3 : Below w.heap.size w w3 := hb.trans (hcw.below hb.size fun k hk => hk.elim (fun hk => by rw [hk]; exact inv.l1) (fun hk => (hownlt k hk).1))
          have hput := rowPut w1.heap.size #[v3, .int .i64 fg] 97 v3 fl w.heap.size op.kind op.n op.text (.slice A2 op.attrs.length c2) op.attrs S w3 hm3 rfl inv.l1 (by decide) (by decide) ho3 (hva.below hbw3) hft (fun x hx => by have := hfb.2 x hx; omega) (by have := hfb.1; (try dsimp only at this hbl); omega)
          go_wp2_with fail
          with_reducible refine hput.mono ?_
          rintro e w4 ⟨rfl, v4, hm4, ho4, hc4, hv4⟩
          go_wp2_with fail
          go_roundg (l.length + 1 - (k + 1))
          case measure => omega
          case rel =>
            refine ⟨k + 1, v4, _, by omega, by omega, by go_num, inv.step (s' := nStep (sl, sg) op) (Chg.trans hcw hc4 fun j hj e => ?_) (by rw [HS.out]; exact hm4) (by rw [HS.out]; exact ho4), hnb2, Ad2⟩
            rcases e with e | e
            · exact .inl e
            · rcases hv3 with hv | ⟨j', hv, hge⟩
              · exact .inr (by rw [← hv]; exact e)
              · rw [hv] at e; simp at e hge; omega
        · have hk1 : (op.kind == 1) = false := by simp [h1]
          by_cases h2 : op.kind = 2
          · have hk2 : (op.kind == 2) = true := by simp [h2]
            have HS : Hid (nStep (sl, sg) op = (putL sl op, sg)) := by unfold Hid nStep; rw [if_neg h1, if_pos h2]
            have HK := Lib.hid h2
            clear h2 h1
            have j0 : (wr.alloc (.cells #[.int .i64 op.kind, .int .i64 op.n, .string op.text, .slice A2 op.attrs.length c2] 30)).cell? ⟨wr.heap.size, 0, none⟩ = some (.int .i64 op.kind) := cell_of_row _ _ 0 _ _ _ hbxc
            have hput := rowPut w1.heap.size #[v, .int .i64 sg] 97 v sl w.heap.size op.kind op.n op.text (.slice A2 op.attrs.length c2) op.attrs S _ ((hbx.block w1.heap.size hmbw).trans hm) rfl inv.l1 (by decide) (by decide) (inv.own.below hbx) (hva.below (hb.trans (hbx.mono hb.size))) hft (fun x hx => by have := hbt x hx; omega) (by (try dsimp only at hbl); omega)
            go_wp2_with fail
            with_reducible refine hput.mono ?_
            rintro e w4 ⟨rfl, v4, hm4, ho4, hc4, hv4⟩
            go_wp2_with fail
            go_roundg (l.length + 1 - (k + 1))
            case measure => omega
            case rel =>
              refine ⟨k + 1, v4, _, by omega, by omega, by go_num, inv.step (s' := nStep (sl, sg) op) (Chg.trans (X := fun k => k = w1.heap.size ∨ v.ownBlock = some k) (Chg.of_below hbx _) hc4 fun j hj e => e) (by rw [HS.out]; exact hm4) (by rw [HS.out]; exact ho4), hnb2, Ad2⟩
          · have h3 : op.kind = 3 := by
              have := hop.1
              unfold shapedB at this
              rw [if_neg h2] at this
              split at this
              · assumption
              · simp only [Bool.and_eq_true, beq_iff_eq] at this; exact absurd this.1 h1
            have hk2 : (op.kind == 2) = false := by simp [h2]
            have hk3 : (op.kind == 3) = true := by simp [h3]
            have HS : Hid (nStep (sl, sg) op = (sl, wrap64 (sg + op.n))) := by unfold Hid nStep; rw [if_neg h1, if_neg h2, if_pos h3]
            have HK := Lib.hid h3
            clear h3 h2 h1
            have hmx := (hbx.block w1.heap.size hmbw).trans hm
            have j0 : (wr.alloc (.cells #[.int .i64 op.kind, .int .i64 op.n, .string op.text, .slice A2 op.attrs.length c2] 30)).cell? ⟨wr.heap.size, 1, none⟩ = some (.int .i64 op.n) := cell_of_row _ _ 1 _ _ _ hbxc
            have j1 : (wr.alloc (.cells #[.int .i64 op.kind, .int .i64 op.n, .string op.text, .slice A2 op.attrs.length c2] 30)).cell? ⟨w1.heap.size, 1, none⟩ = some (.int .i64 sg) := cell_of_row _ _ 1 _ _ _ hmx
            have j2 : (wr.alloc (.cells #[.int .i64 op.kind, .int .i64 op.n, .string op.text, .slice A2 op.attrs.length c2] 30)).frozen? ⟨w1.heap.size, 1, none⟩ = false := frozen_of_row _ _ 1 _ _ hmx
            go_wp2_with fail
            go_roundg (l.length + 1 - (k + 1))
            case measure => omega
            case rel =>
              have hcs : Chg (fun k => k = w1.heap.size) wr (wr.setCell ⟨w1.heap.size, 1, none⟩ (.int .i64 (wrap64 (sg + op.n)))) := (Chg.refl _ _).setCell _ fun _ => rfl
              have hown4 : OwnO w.heap.size (wr.setCell ⟨w1.heap.size, 1, none⟩ (.int .i64 (wrap64 (sg + op.n)))) v sl := inv.own.chg hcs (fun k hk e => own_ne_blockO inv.own hm (by decide) k hk e) (fun k _ hk e => by
                obtain ⟨cs', fr, hk⟩ := hk
                subst e
                rw [hm] at hk
                injection hk with hk
                injection hk with _ ht
                exact absurd ht (by decide))
              refine ⟨k + 1, v, _, by omega, by omega, by go_num, inv.step (s' := nStep (sl, sg) op) ((hcs.mono fun _ _ e => .inl e).alloc _) (by rw [HS.out]; exact (Below.heap_alloc _ _ _ (by simpa using hmbw)).trans (heap_setCell_same wr _ 1 _ _ _ hm)) (by rw [HS.out]; exact hown4.below ((Below.refl _ _).alloc (Nat.le_refl _) _)), hnb2, Ad2⟩
      · have hlz : ¬ (k : Int) < (l.length : Int) := by omega
        obtain rfl : k = l.length := by omega
        have hst : Hid (l.foldl nStep ([], 0) = (sl, sg)) := by rw [List.drop_length] at Ad; exact Ad.symm
        clear Ad
        have hownlt := inv.own.lt
        have hbl := hnb.1
        have hbt := hnb.2
        have hfl := flush_ch w1.heap.size 97 v sl sg w.heap.size wr hm inv.l1 (by decide) (by decide) inv.own (by (try dsimp only at hbl); omega)
        have HNS : Hid (normS l = flushL (sl, sg)) := by unfold Hid normS; rw [hst.out]
        generalize flushL (sl, sg) = fs at *
        obtain ⟨fl, fg⟩ := fs
        go_wp2_with fail
        with_reducible refine hfl.mono ?_
        rintro e w3 ⟨rfl, v3, hm3, ho3, hc3, hv3⟩
        have inv3 := inv.step (s' := (fl, fg)) hc3 hm3 ho3
        have b1 := inv3.c1
        have b2 := inv3.c2
        have g0 : w3.cell? ⟨w1.heap.size, 0, none⟩ = some v3 := cell_of_row _ _ 0 _ _ _ inv3.m
        obtain ⟨A3, c3, rfl, hA3, hr3⟩ := ho3.rd
        have hgm : w1.heap.size ≠ w.heap.size := by omega
        rcases List.eq_nil_or_concat fl with rfl | ⟨l0, x, rfl⟩
        · have HL : Hid (normL l = []) := by unfold Hid normL; rw [HNS.out]; rfl
          have hrow := ho3.row
          have hbW := inv3.below
          simp only [List.length_nil] at g0 hrow
          have e2 := g0
          go_wp2_with fail
          have e1 : w3.cell? ⟨w.heap.size, 0, none⟩ = some (.int .i64 f) := cell_of_row _ _ 0 _ _ _ b1
          have e3 : w3.cell? ⟨w.heap.size + 1, 0, none⟩ = some (.int .i64 0) := cell_of_row _ _ 0 _ _ _ b2
          have e4 : w3.cell? ⟨w.heap.size + 1, 1, none⟩ = some (.slice none 0 0) := cell_of_row _ _ 1 _ _ _ b2
          have e5 : w3.frozen? ⟨w.heap.size + 1, 0, none⟩ = false := frozen_of_row _ _ 0 _ _ b2
          have e6 : w3.frozen? ⟨w.heap.size + 1, 1, none⟩ = false := frozen_of_row _ _ 1 _ _ b2
          obtain ⟨he0, hcA, hcn, hcm, hrow2⟩ := hrow.clip
          clear he0
          have hclip := clip_any A3 (0) c3 hcA hcn hcm
          go_region_held3 (fun w' => w'.cell? ⟨w.heap.size, 0, none⟩ = some (.int .i64 f) ∧ w'.cell? ⟨w1.heap.size, 0, none⟩ = some (.slice A3 (0) c3))
            (first | exact ⟨e1, e2⟩ | exact ⟨(World.cell?_setCell_other _ _ _ _ (by intro e; injection e; omega)).trans ((World.cell?_setCell_other _ _ _ _ (by intro e; injection e; omega)).trans e1), (World.cell?_setCell_other _ _ _ _ (by intro e; injection e; omega)).trans ((World.cell?_setCell_other _ _ _ _ (by intro e; injection e; omega)).trans e2)⟩ | go_keep)
            (first | (go_at_call 95; refine (hclip _).mono ?_; rintro e w5 ⟨rfl, rfl⟩))
          go_wp2_with fail
          exact normal_end w _ w3 hbW b2 HN.out HL.out hrow2 rfl rfl rfl
        · rw [List.concat_eq_append] at *
          have el : (l0 ++ [x]).length = l0.length + 1 := by simp
          rw [el] at g0 ho3
          obtain ⟨g0', rfl⟩ : ∃ g0', A3 = some ⟨g0', 0, none⟩ := by
            obtain ⟨ps, hps, h1, _, _⟩ := ho3
            rcases h1.2 with ⟨h', _⟩ | ⟨g', cap', cur', h', _⟩
            · simp at h'
            · simp at h'
              exact ⟨g', by rw [h'.1]⟩
          have g1 := g0
          clear g0
          obtain ⟨g0, hg0⟩ : ∃ g0, g0 = g0' := ⟨_, rfl⟩
          subst hg0
          obtain ⟨vx, hox, hfx, hx0, hx1, hx2, hx3, hxf⟩ := ho3.last
          obtain ⟨A4, c4, rfl, hA4, hr4⟩ := hox.rd
          have hlen3 : (l0.length + 1) * 56 ≤ 140737488355328 := by obtain ⟨_, _, _, _, h⟩ := ho3; rw [el] at h; exact h
          have hwr : IntKind.i64.wrap ((l0.length + 1 : Nat) - 1 : Int) = l0.length := by rw [show ((l0.length + 1 : Nat) - 1 : Int) = (l0.length : Int) by omega, IntKind.wrap_i64]; omega
          have hwr2 : IntKind.i64.wrap ((l0.length : Int) + 1 - 1) = l0.length := by rw [show ((l0.length : Int) + 1 - 1) = (l0.length : Int) by omega, IntKind.wrap_i64]; omega
          have hlt1 : (l0.length : Int) < (l0.length + 1 : Nat) := by omega
          have hlt2 : (l0.length : Int) < (l0.length : Int) + 1 := by omega
          have hlt3 : (0 : Int) ≤ (l0.length : Int) := by omega
          have hgl : (l0 ++ [x]).getLast? = some x := by simp
          by_cases hk1 : x.kind = 1
          · by_cases hat : x.attrs = []
            · have HL : Hid (normL l = l0) := by unfold Hid normL; rw [HNS.out]; unfold trimL; rw [hgl]; simp [hk1, hat]
              have hkb : (x.kind == 1) = true := by simp [hk1]
              have hab : ((x.attrs.length : Int) == 0) = true := by simp [hat]
              have HK := Lib.hid hk1
              have HA := Lib.hid hat
              clear hk1 hat
              have hcl := ho3.row.clip.2.2.1
              have hcm0 := ho3.row.clip.2.2.2.1
              have hcl2 : (l0.length : Int) ≤ (c3 : Int) := by omega
              have g1f := frozen_of_row w3 w1.heap.size 0 _ _ inv3.m
              go_wp2_with fail
              have hbW : Below w.heap.size w (w3.setCell ⟨w1.heap.size, 0, none⟩ (.slice (some ⟨g0, 0, none⟩) l0.length c3)) := inv3.below.setCell (p := ⟨w1.heap.size, 0, none⟩) inv3.l1 _
              have hcC : Chg (fun k => k = w1.heap.size) w3 (w3.setCell ⟨w1.heap.size, 0, none⟩ (.slice (some ⟨g0, 0, none⟩) l0.length c3)) := (Chg.refl _ _).setCell _ fun _ => rfl
              have b1 := (hcC.block w.heap.size (Array.getElem?_eq_some_iff.1 b1).1 (by omega)).trans b1
              have b2 := (hcC.block (w.heap.size + 1) (Array.getElem?_eq_some_iff.1 b2).1 (by omega)).trans b2
              have e2 : ((w3.setCell ⟨w1.heap.size, 0, none⟩ (.slice (some ⟨g0, 0, none⟩) l0.length c3))).cell? ⟨w1.heap.size, 0, none⟩ = some (.slice (some ⟨g0, 0, none⟩) l0.length c3) := World.cell?_setCell_same _ _ _ g1
              have hrow : RowO w.heap.size (w3.setCell ⟨w1.heap.size, 0, none⟩ (.slice (some ⟨g0, 0, none⟩) l0.length c3)) (.slice (some ⟨g0, 0, none⟩) l0.length c3) l0 := (ho3.row.cut c3 (by omega) (Nat.le_refl _)).chg hcC (fun k hk e => own_ne_blockO ho3 inv3.m (by decide) k hk e) (fun k _ hk e => by
                obtain ⟨cs', fr, hk⟩ := hk
                subst e
                rw [inv3.m] at hk
                injection hk with hk
                injection hk with _ ht
                exact absurd ht (by decide))
              have e1 : (w3.setCell ⟨w1.heap.size, 0, none⟩ (.slice (some ⟨g0, 0, none⟩) l0.length c3)).cell? ⟨w.heap.size, 0, none⟩ = some (.int .i64 f) := cell_of_row _ _ 0 _ _ _ b1
              have e3 : (w3.setCell ⟨w1.heap.size, 0, none⟩ (.slice (some ⟨g0, 0, none⟩) l0.length c3)).cell? ⟨w.heap.size + 1, 0, none⟩ = some (.int .i64 0) := cell_of_row _ _ 0 _ _ _ b2
              have e4 : (w3.setCell ⟨w1.heap.size, 0, none⟩ (.slice (some ⟨g0, 0, none⟩) l0.length c3)).cell? ⟨w.heap.size + 1, 1, none⟩ = some (.slice none 0 0) := cell_of_row _ _ 1 _ _ _ b2
              have e5 : (w3.setCell ⟨w1.heap.size, 0, none⟩ (.slice (some ⟨g0, 0, none⟩) l0.length c3)).frozen? ⟨w.heap.size + 1, 0, none⟩ = false := frozen_of_row _ _ 0 _ _ b2
              have e6 : (w3.setCell ⟨w1.heap.size, 0, none⟩ (.slice (some ⟨g0, 0, none⟩) l0.length c3)).frozen? ⟨w.heap.size + 1, 1, none⟩ = false := frozen_of_row _ _ 1 _ _ b2
              obtain ⟨he0, hcA, hcn, hcm, hrow2⟩ := hrow.clip
              clear he0
              have hclip := clip_any (some ⟨g0, 0, none⟩) (l0.length) c3 hcA hcn hcm
              go_region_held3 (fun w' => w'.cell? ⟨w.heap.size, 0, none⟩ = some (.int .i64 f) ∧ w'.cell? ⟨w1.heap.size, 0, none⟩ = some (.slice (some ⟨g0, 0, none⟩) (l0.length) c3))
                (first | exact ⟨e1, e2⟩ | exact ⟨(World.cell?_setCell_other _ _ _ _ (by intro e; injection e; omega)).trans ((World.cell?_setCell_other _ _ _ _ (by intro e; injection e; omega)).trans e1), (World.cell?_setCell_other _ _ _ _ (by intro e; injection e; omega)).trans ((World.cell?_setCell_other _ _ _ _ (by intro e; injection e; omega)).trans e2)⟩ | go_keep)
                (first | (go_at_call 95; refine (hclip _).mono ?_; rintro e w5 ⟨rfl, rfl⟩))
              go_wp2_with fail
              exact normal_end w _ (w3.setCell ⟨w1.heap.size, 0, none⟩ (.slice (some ⟨g0, 0, none⟩) l0.length c3)) hbW b2 HN.out HL.out hrow2 rfl rfl rfl
            · have HL : Hid (normL l = l0 ++ [x]) := by unfold Hid normL; rw [HNS.out]; unfold trimL; rw [hgl]; simp [hat]
              have hkb : (x.kind == 1) = true := by simp [hk1]
              have hab : ((x.attrs.length : Int) == 0) = false := by
                have : x.attrs.length ≠ 0 := fun e => hat (List.eq_nil_of_length_eq_zero e)
                simp; exact hat
              have HK := Lib.hid hk1
              have HA := Lib.hid hat
              clear hk1 hat
              have hrow := ho3.row
              have hbW := inv3.below
              have e2 := g1
              go_wp2_with fail
              have e1 : w3.cell? ⟨w.heap.size, 0, none⟩ = some (.int .i64 f) := cell_of_row _ _ 0 _ _ _ b1
              have e3 : w3.cell? ⟨w.heap.size + 1, 0, none⟩ = some (.int .i64 0) := cell_of_row _ _ 0 _ _ _ b2
              have e4 : w3.cell? ⟨w.heap.size + 1, 1, none⟩ = some (.slice none 0 0) := cell_of_row _ _ 1 _ _ _ b2
              have e5 : w3.frozen? ⟨w.heap.size + 1, 0, none⟩ = false := frozen_of_row _ _ 0 _ _ b2
              have e6 : w3.frozen? ⟨w.heap.size + 1, 1, none⟩ = false := frozen_of_row _ _ 1 _ _ b2
              obtain ⟨he0, hcA, hcn, hcm, hrow2⟩ := hrow.clip
              clear he0
              have hclip := clip_any (some ⟨g0, 0, none⟩) (l0.length + 1) c3 hcA hcn hcm
              go_region_held3 (fun w' => w'.cell? ⟨w.heap.size, 0, none⟩ = some (.int .i64 f) ∧ w'.cell? ⟨w1.heap.size, 0, none⟩ = some (.slice (some ⟨g0, 0, none⟩) (l0.length + 1) c3))
                (first | exact ⟨e1, e2⟩ | exact ⟨(World.cell?_setCell_other _ _ _ _ (by intro e; injection e; omega)).trans ((World.cell?_setCell_other _ _ _ _ (by intro e; injection e; omega)).trans e1), (World.cell?_setCell_other _ _ _ _ (by intro e; injection e; omega)).trans ((World.cell?_setCell_other _ _ _ _ (by intro e; injection e; omega)).trans e2)⟩ | go_keep)
                (first | (go_at_call 95; refine (hclip _).mono ?_; rintro e w5 ⟨rfl, rfl⟩))
              go_wp2_with fail
              exact normal_end w _ w3 hbW b2 HN.out HL.out hrow2 rfl rfl rfl
          · have HL : Hid (normL l = l0 ++ [x]) := by unfold Hid normL; rw [HNS.out]; unfold trimL; rw [hgl]; simp [hk1]
            have hkb : (x.kind == 1) = false := by simp [hk1]
            have HK := Lib.hid hk1
            clear hk1
            have hrow := ho3.row
            have hbW := inv3.below
            have e2 := g1
            go_wp2_with fail
            have e1 : w3.cell? ⟨w.heap.size, 0, none⟩ = some (.int .i64 f) := cell_of_row _ _ 0 _ _ _ b1
            have e3 : w3.cell? ⟨w.heap.size + 1, 0, none⟩ = some (.int .i64 0) := cell_of_row _ _ 0 _ _ _ b2
            have e4 : w3.cell? ⟨w.heap.size + 1, 1, none⟩ = some (.slice none 0 0) := cell_of_row _ _ 1 _ _ _ b2
            have e5 : w3.frozen? ⟨w.heap.size + 1, 0, none⟩ = false := frozen_of_row _ _ 0 _ _ b2
            have e6 : w3.frozen? ⟨w.heap.size + 1, 1, none⟩ = false := frozen_of_row _ _ 1 _ _ b2
            obtain ⟨he0, hcA, hcn, hcm, hrow2⟩ := hrow.clip
            clear he0
            have hclip := clip_any (some ⟨g0, 0, none⟩) (l0.length + 1) c3 hcA hcn hcm
            go_region_held3 (fun w' => w'.cell? ⟨w.heap.size, 0, none⟩ = some (.int .i64 f) ∧ w'.cell? ⟨w1.heap.size, 0, none⟩ = some (.slice (some ⟨g0, 0, none⟩) (l0.length + 1) c3))
              (first | exact ⟨e1, e2⟩ | exact ⟨(World.cell?_setCell_other _ _ _ _ (by intro e; injection e; omega)).trans ((World.cell?_setCell_other _ _ _ _ (by intro e; injection e; omega)).trans e1), (World.cell?_setCell_other _ _ _ _ (by intro e; injection e; omega)).trans ((World.cell?_setCell_other _ _ _ _ (by intro e; injection e; omega)).trans e2)⟩ | go_keep)
              (first | (go_at_call 95; refine (hclip _).mono ?_; rintro e w5 ⟨rfl, rfl⟩))
            go_wp2_with fail
            exact normal_end w _ w3 hbW b2 HN.out HL.out hrow2 rfl rfl rfl
  · have HN : Hid (nmR ⟨f, l⟩ = (⟨0, []⟩, er)) := by unfold Hid nmR; rw [if_neg (by rw [HR.out]; exact he), HR.out]
    have hne : (er == 0) = false := by simp [he]
    go_enter Tryd.func36, Tryd.ntmps36
    go_wp2_with fail
    refine (cr _ (Rd.below ⟨A, c, rfl, hA, hr⟩ hb0) (hT.below hb0)).mono ?_
    rintro e w1 ⟨rfl, hb1⟩
    have k1 : w1.heap[w.heap.size]? = some (.cells #[.int .i64 f, .slice A l.length c] 24 (0, 0)) := (hb1.block _ (by simp; omega)).trans ((Below.heap_alloc _ _ _ (by simp)).trans (heap_alloc_new w _))
    have k2 : w1.heap[w.heap.size + 1]? = some (.cells #[.int .i64 0, .slice none 0 0] 24 (0, 0)) := (hb1.block _ (by simp)).trans (by simpa using heap_alloc_new (w.alloc (.cells #[.int .i64 f, .slice A l.length c] 24)) (.cells #[.int .i64 0, .slice none 0 0] 24))
    have hz1 : w.heap.size + 2 ≤ w1.heap.size := by have := hb1.size; simp at this; omega
    have hbw : Below w.heap.size w w1 := hb0.trans (hb1.mono hb0.size)
    have k3 : w1.cell? ⟨w.heap.size, 0, none⟩ = some (.int .i64 f) := cell_of_row w1 _ 0 _ _ _ k1
    have k4 : w1.cell? ⟨w.heap.size, 1, none⟩ = some (.slice A l.length c) := cell_of_row w1 _ 1 _ _ _ k1
    have k5 : w1.cell? ⟨w.heap.size + 1, 0, none⟩ = some (.int .i64 0) := cell_of_row w1 _ 0 _ _ _ k2
    have k6 : w1.cell? ⟨w.heap.size + 1, 1, none⟩ = some (.slice none 0 0) := cell_of_row w1 _ 1 _ _ _ k2
    have k7 : w1.frozen? ⟨w.heap.size + 1, 0, none⟩ = false := by simp [World.frozen?, k2]
    have k8 : w1.frozen? ⟨w.heap.size + 1, 1, none⟩ = false := by simp [World.frozen?, k2]
    have k4a : ∀ o, (w1.alloc o).cell? ⟨w.heap.size, 1, none⟩ = some (.slice A l.length c) := fun o => (World.cell?_of_block (Below.heap_alloc w1 o _ (by show w.heap.size < _; omega))).trans k4
    clear hb1
    go_wp2_with fail
    refine bodyPost_ret (v := .tuple #[.agg #[.int .i64 0, .slice none 0 0], .int .i64 er]) ?_ rfl ⟨.slice none 0 0, by rw [HN.out], ?_, ?_⟩
    · have r0 : ((w1.setCell ⟨w.heap.size + 1, 0, none⟩ (.int .i64 0)).setCell ⟨w.heap.size + 1, 1, none⟩ (.slice none 0 0)).cell? ⟨w.heap.size + 1, 0, none⟩ = some (.int .i64 0) := (World.cell?_setCell_other _ _ _ _ (by simp)).trans (World.cell?_setCell_same _ _ _ k5)
      have r1 : ((w1.setCell ⟨w.heap.size + 1, 0, none⟩ (.int .i64 0)).setCell ⟨w.heap.size + 1, 1, none⟩ (.slice none 0 0)).cell? ⟨w.heap.size + 1, 1, none⟩ = some (.slice none 0 0) := World.cell?_setCell_same _ _ _ ((World.cell?_setCell_other _ _ _ _ (by simp)).trans k6)
      simp [results, Tryd.results36, go_sem, r0, r1]
    · exact (hbw.setCell (p := ⟨w.heap.size + 1, 0, none⟩) (by simp) _).setCell (p := ⟨w.heap.size + 1, 1, none⟩) (by simp) _
    · rw [HN.out]; exact RowO.nil _ _
end Go.Proofs.YtaemajcpgmaapaaDoor

namespace Go.Proofs.YtaemajcpgmaapaaDoor
open Go.RowKit

def opEq (a b : Op) : Bool := decide (a.kind = b.kind) && (decide (a.n = b.n) && (decide (a.text = b.text) && attrsEq a.attrs b.attrs))
def nothR (n : Int) : Change × Int := if n < 0 ∨ 20000 < n then (⟨0, []⟩, 31) else (⟨n, []⟩, 0)

set_option maxHeartbeats 1000000 in
theorem noth_any (n : Int) (w : World) :
    Calls Tryd.prog 37 #[.int .i64 n] w fun e w' => e = .returned (.tuple #[.agg #[.int .i64 (nothR n).1.from_, .slice none 0 0], .int .i64 (nothR n).2]) ∧ Below w.heap.size w w' := by
  by_cases h0 : n < 0
  · have HN : Hid (nothR n = (⟨0, []⟩, 31)) := by unfold Hid nothR; rw [if_pos (.inl h0)]
    go_enter Tryd.func37, Tryd.ntmps37
    go_wp2_with fail
    refine bodyPost_ret (v := .tuple #[.agg #[.int .i64 0, .slice none 0 0], .int .i64 31]) (by simp [results, Tryd.results37, go_sem]) rfl ⟨by rw [HN.out], ?_⟩
    exact (Below.refl _ _).alloc (Nat.le_refl _) _
  · by_cases h1 : 20000 < n
    · have HN : Hid (nothR n = (⟨0, []⟩, 31)) := by unfold Hid nothR; rw [if_pos (.inr h1)]
      go_enter Tryd.func37, Tryd.ntmps37
      go_wp2_with fail
      refine bodyPost_ret (v := .tuple #[.agg #[.int .i64 0, .slice none 0 0], .int .i64 31]) (by simp [results, Tryd.results37, go_sem]) rfl ⟨by rw [HN.out], ?_⟩
      exact (Below.refl _ _).alloc (Nat.le_refl _) _
    · have HN : Hid (nothR n = (⟨n, []⟩, 0)) := by unfold Hid nothR; rw [if_neg (by omega)]
      go_enter Tryd.func37, Tryd.ntmps37
      go_wp2_with fail
      refine bodyPost_ret (v := .tuple #[.agg #[.int .i64 n, .slice none 0 0], .int .i64 0]) (by simp [results, Tryd.results37, go_sem]) rfl ⟨by rw [HN.out], ?_⟩
      exact (Below.refl _ _).alloc (Nat.le_refl _) _

theorem str_eq_of (x y : ByteArray) : x = y ∨ x ≠ y := Classical.em _

set_option maxHeartbeats 2000000 in
theorem same1_any (a b : Op) (va vb : Value) (S1 S2 : Nat → Prop) (w : World) (ha : Rd KA S1 w va a.attrs) (hb : Rd KA S2 w vb b.attrs) :
    Calls Tryd.prog 97 #[.agg #[.int .i64 a.kind, .int .i64 a.n, .string a.text, va], .agg #[.int .i64 b.kind, .int .i64 b.n, .string b.text, vb]] w fun e w' => e = .returned (.bool (opEq a b)) ∧ Below w.heap.size w w' := by
  have cs := same_q va vb a.attrs b.attrs S1 S2
  obtain ⟨A1, c1, rfl, hA1, hr1⟩ := ha
  obtain ⟨A2, c2, rfl, hA2, hr2⟩ := hb
  have hbb : Below w.heap.size w ((w.alloc (.cells #[.int .i64 a.kind, .int .i64 a.n, .string a.text, .slice A1 a.attrs.length c1] 30)).alloc (.cells #[.int .i64 b.kind, .int .i64 b.n, .string b.text, .slice A2 b.attrs.length c2] 30)) := ((Below.refl _ _).alloc (Nat.le_refl _) _).alloc (by simp) _
  by_cases hk : a.kind = b.kind
  · have hkb : (a.kind == b.kind) = true := by simp [hk]
    by_cases hn : a.n = b.n
    · have hnb : (a.n == b.n) = true := by simp [hn]
      by_cases ht : a.text = b.text
      · have HO : Hid (opEq a b = attrsEq a.attrs b.attrs) := by unfold Hid opEq; simp [hk, hn, ht]
        have htb : (a.text.toList == b.text.toList) = true := by simp [ht]
        have HK := Lib.hid hk
        have HN := Lib.hid hn
        have HT := Lib.hid ht
        clear hk hn ht
        go_enter Tryd.func97, Tryd.ntmps97
        go_wp2_with fail
        have cs1 := cs _ (Rd.below ⟨A1, c1, rfl, hA1, hr1⟩ hbb) (Rd.below ⟨A2, c2, rfl, hA2, hr2⟩ hbb)
        with_reducible refine cs1.mono ?_
        rintro e w2 ⟨rfl, m, rfl⟩
        go_wp2_with fail
        go_ret
        exact ⟨by rw [HO.out]; rfl, below_drewN hbb _⟩
      · have HO : Hid (opEq a b = false) := by unfold Hid opEq; simp [ht]
        have htb : (a.text.toList == b.text.toList) = false := beq_eq_false_iff_ne.2 fun e => ht (toList_inj e)
        have HK := Lib.hid hk
        have HN := Lib.hid hn
        have HT := Lib.hid ht
        clear hk hn ht
        go_enter Tryd.func97, Tryd.ntmps97
        go_wp2_with fail
        go_ret
        exact ⟨by rw [HO.out]; rfl, hbb⟩
    · have HO : Hid (opEq a b = false) := by unfold Hid opEq; simp [hn]
      have hnb : (a.n == b.n) = false := by simp [hn]
      have HK := Lib.hid hk
      have HN := Lib.hid hn
      clear hk hn
      go_enter Tryd.func97, Tryd.ntmps97
      go_wp2_with fail
      go_ret
      exact ⟨by rw [HO.out]; rfl, hbb⟩
  · have HO : Hid (opEq a b = false) := by unfold Hid opEq; simp [hk]
    have hkb : (a.kind == b.kind) = false := by simp [hk]
    have HK := Lib.hid hk
    clear hk
    go_enter Tryd.func97, Tryd.ntmps97
    go_wp2_with fail
    go_ret
    exact ⟨by rw [HO.out]; rfl, hbb⟩
end Go.Proofs.YtaemajcpgmaapaaDoor

namespace Go.Proofs.YtaemajcpgmaapaaDoor
open Go.RowKit

def opsEq : List Op → List Op → Bool
  | [], [] => true
  | a :: l, b :: m => opEq a b && opsEq l m
  | _, _ => false
theorem opsEq_len : ∀ l m, opsEq l m = true → l.length = m.length
  | [], [], _ => rfl
  | a :: l, b :: m, h => by
    simp only [opsEq, Bool.and_eq_true] at h
    simp [opsEq_len l m h.2]
  | [], _ :: _, h => by simp [opsEq] at h
  | _ :: _, [], h => by simp [opsEq] at h
def chEq (a b : Change) : Bool := decide (a.from_ = b.from_) && opsEq a.ops b.ops

set_option maxHeartbeats 2000000 in
theorem equalF_any (v1 v2 : Value) (l1 l2 : List Op) (S1 S2 : Nat → Prop) (w : World) (h1 : Rd KO S1 w v1 l1) (h2 : Rd KO S2 w v2 l2) :
    Calls Tryd.prog 96 #[v1, v2, .func (.func 97) #[] #[]] w fun e w' => e = .returned (.bool (opsEq l1 l2)) ∧ Below w.heap.size w w' := by
  have cs := same1_any
  obtain ⟨A1, c1, rfl, _, hr1⟩ := h1
  obtain ⟨A2, c2, rfl, _, hr2⟩ := h2
  have hlen1 := hr1.len
  have hlen2 := hr2.len
  by_cases hL : l1.length = l2.length
  · have HL := Lib.hid hL
    clear hL
    have hne : ((l1.length : Int) != (l2.length : Int)) = false := by have := HL.out; simp [this]
    go_enter Tryd.func96, Tryd.ntmps96
    go_wp2_with fail
    go_loopg [17] (l1.length + 1) (fun g s17 wr => ∃ k : Nat, k ≤ l1.length ∧ l1.length - k < g ∧ s17 = .int .i64 k ∧ Below w.heap.size w wr ∧ Aside (opsEq l1 l2 = opsEq (l1.drop k) (l2.drop k)))
    case atStart => exact ⟨0, Nat.zero_le _, by omega, rfl, Below.refl _ _, (show Aside _ from rfl)⟩
    case round =>
      obtain ⟨k, hk, hg, rfl, hb, Ad⟩ := hrel
      by_cases hlt : k < l1.length
      · have hlt2 : k < l2.length := by have := HL.out; omega
        have hlz : (k : Int) < (l1.length : Int) := by omega
        have hlz2 : (k : Int) < (l2.length : Int) := by omega
        obtain ⟨b1, o1, A3, c3, rfl, _, hbw1, hc0, hc1, hc2, hc3, hva1, hft1⟩ := hr1.ops k hlt
        obtain ⟨b2, o2, A4, c4, rfl, _, hbw2, hp0, hp1, hp2, hp3, hva2, hft2⟩ := hr2.ops k hlt2
        have d0 := (hb.cell (p := ⟨b1, o1 + k * 4, none⟩) hbw1).trans hc0
        have d1 := (hb.cell (p := ⟨b1, o1 + k * 4 + 1, none⟩) hbw1).trans hc1
        have d2 := (hb.cell (p := ⟨b1, o1 + k * 4 + 2, none⟩) hbw1).trans hc2
        have d3 := (hb.cell (p := ⟨b1, o1 + k * 4 + 3, none⟩) hbw1).trans hc3
        have hba : ∀ o, Below w.heap.size w (wr.alloc o) := fun o => hb.alloc hb.size o
        have q0 := fun o => ((hba o).cell (p := ⟨b2, o2 + k * 4, none⟩) hbw2).trans hp0
        have q1 := fun o => ((hba o).cell (p := ⟨b2, o2 + k * 4 + 1, none⟩) hbw2).trans hp1
        have q2 := fun o => ((hba o).cell (p := ⟨b2, o2 + k * 4 + 2, none⟩) hbw2).trans hp2
        have q3 := fun o => ((hba o).cell (p := ⟨b2, o2 + k * 4 + 3, none⟩) hbw2).trans hp3
        have hstep : opsEq (l1.drop k) (l2.drop k) = (opEq l1[k] l2[k] && opsEq (l1.drop (k + 1)) (l2.drop (k + 1))) := by rw [List.drop_eq_getElem_cons hlt, List.drop_eq_getElem_cons hlt2]; rfl
        have Ad2 := Ad.trans hstep
        have hbx : ∀ o o', Below w.heap.size w ((wr.alloc o).alloc o') := fun o o' => (hba o).alloc (hba o).size o'
        have cs1 := fun o o' => cs l1[k] l2[k] _ _ S1 S2 _ (hva1.below (hbx o o')) (hva2.below (hbx o o'))
        generalize l1[k] = x at *
        generalize l2[k] = y at *
        clear hc0 hc1 hc2 hc3 hp0 hp1 hp2 hp3 hstep Ad cs hva1 hva2
        cases he : opEq x y with
        | true =>
          have HM : Aside (opsEq l1 l2 = opsEq (l1.drop (k + 1)) (l2.drop (k + 1))) := by have := Ad2; rw [he, Bool.true_and] at this; exact this
          rw [he] at cs1
          clear Ad2 he
          go_wp2_with (go_at_call 97; (with_reducible refine (cs1 _ _).mono ?_); rintro e w2 ⟨rfl, hb2⟩)
          go_roundg (l1.length + 1 - (k + 1))
          case measure => omega
          case rel => exact ⟨k + 1, by omega, by omega, by go_num, (hbx _ _).trans (hb2.mono (hbx _ _).size), HM⟩
        | false =>
          have HM : Hid (opsEq l1 l2 = false) := by have := Ad2; rw [he, Bool.false_and] at this; exact this
          rw [he] at cs1
          clear Ad2 he
          go_wp2_with (go_at_call 97; (with_reducible refine (cs1 _ _).mono ?_); rintro e w2 ⟨rfl, hb2⟩)
          go_ret
          exact ⟨by rw [HM.out]; rfl, (hbx _ _).trans (hb2.mono (hbx _ _).size)⟩
      · have hlz : ¬ (k : Int) < (l1.length : Int) := by omega
        have hkl : k = l1.length := by omega
        have HM : Hid (opsEq l1 l2 = true) := by
          have := Ad
          rw [hkl, List.drop_length, HL.out, List.drop_length] at this
          exact this
        clear Ad hkl
        go_wp2_with fail
        go_ret
        exact ⟨by rw [HM.out]; rfl, hb⟩
  · have hne : ((l1.length : Int) != (l2.length : Int)) = true := by simp; omega
    have HM : Hid (opsEq l1 l2 = false) := by
      unfold Hid
      cases h : opsEq l1 l2 with
      | false => rfl
      | true => exact absurd (opsEq_len _ _ h) hL
    have HL := Lib.hid hL
    clear hL
    go_enter Tryd.func96, Tryd.ntmps96
    go_wp2_with fail
    go_ret
    exact ⟨by rw [HM.out]; rfl, Below.refl _ _⟩

set_option maxHeartbeats 2000000 in
theorem same_ch (fa fb : Int) (va vb : Value) (la lb : List Op) (S1 S2 : Nat → Prop) (w : World) (ha : Rd KO S1 w va la) (hb : Rd KO S2 w vb lb) :
    Calls Tryd.prog 38 #[.agg #[.int .i64 fa, va], .agg #[.int .i64 fb, vb]] w fun e w' => e = .returned (.bool (chEq ⟨fa, la⟩ ⟨fb, lb⟩)) ∧ Below w.heap.size w w' := by
  have cs := equalF_any va vb la lb S1 S2
  obtain ⟨A1, c1, rfl, hA1, hr1⟩ := ha
  obtain ⟨A2, c2, rfl, hA2, hr2⟩ := hb
  have hbb : Below w.heap.size w ((w.alloc (.cells #[.int .i64 fa, .slice A1 la.length c1] 24)).alloc (.cells #[.int .i64 fb, .slice A2 lb.length c2] 24)) := ((Below.refl _ _).alloc (Nat.le_refl _) _).alloc (by simp) _
  have cs1 := cs _ (Rd.below ⟨A1, c1, rfl, hA1, hr1⟩ hbb) (Rd.below ⟨A2, c2, rfl, hA2, hr2⟩ hbb)
  by_cases hk : fa = fb
  · have hkb : (fa == fb) = true := by simp [hk]
    have HO : Hid (chEq ⟨fa, la⟩ ⟨fb, lb⟩ = opsEq la lb) := by unfold Hid chEq; simp [hk]
    have HK := Lib.hid hk
    clear hk
    go_enter Tryd.func38, Tryd.ntmps38
    go_wp2_with fail
    with_reducible refine cs1.mono ?_
    rintro e w2 ⟨rfl, hb2⟩
    go_wp2_with fail
    go_ret
    exact ⟨by rw [HO.out]; rfl, hbb.trans (hb2.mono hbb.size)⟩
  · have hkb : (fa == fb) = false := by simp [hk]
    have HO : Hid (chEq ⟨fa, la⟩ ⟨fb, lb⟩ = false) := by unfold Hid chEq; simp [hk]
    have HK := Lib.hid hk
    clear hk
    go_enter Tryd.func38, Tryd.ntmps38
    go_wp2_with fail
    go_ret
    exact ⟨by rw [HO.out]; rfl, hbb⟩

/-- change.Is. -/
def chIs (c : Change) : Bool := decide ((nmR c).2 = 0) && chEq c (nmR c).1

set_option maxHeartbeats 2000000 in
theorem is_ch (f : Int) (vo : Value) (l : List Op) (S : Nat → Prop) (w : World) (h : Rd KO S w vo l) (hT : Tabs w) :
    Calls Tryd.prog 35 #[.agg #[.int .i64 f, vo]] w fun e w' => e = .returned (.bool (chIs ⟨f, l⟩)) ∧ Below w.heap.size w w' := by
  have cn := normal_ch f vo l S
  obtain ⟨A, c, rfl, hA, hr⟩ := h
  have hb0 : Below w.heap.size w (w.alloc (.cells #[.int .i64 f, .slice A l.length c] 24)) := (Below.refl _ _).alloc (Nat.le_refl _) _
  have cn1 := cn _ (Rd.below ⟨A, c, rfl, hA, hr⟩ hb0) (hT.below hb0)
  obtain ⟨nf, nl, er, HR⟩ : ∃ nf nl er, Hid (nmR ⟨f, l⟩ = (⟨nf, nl⟩, er)) := ⟨_, _, _, rfl⟩
  rw [HR.out] at cn1
  have cn2 := Lib.hid cn1
  clear cn cn1
  go_enter Tryd.func35, Tryd.ntmps35
  go_wp2_with fail
  with_reducible refine cn2.out.mono ?_
  rintro e w1 ⟨v1, rfl, hb1, ho1⟩
  have hbw : Below w.heap.size w w1 := hb0.trans (hb1.mono hb0.size)
  have hrd := ho1.rd
  obtain ⟨A1, c1, rfl, hA1, hr1⟩ := hrd
  have hz1 : w.heap.size < w1.heap.size := by have := hb1.size; simp at this; omega
  have k1 : w1.heap[w.heap.size]? = some (.cells #[.int .i64 f, .slice A l.length c] 24 (0, 0)) := (hb1.block _ (by simp)).trans (heap_alloc_new w _)
  have hba : ∀ o, Below w.heap.size w (w1.alloc o) := fun o => hbw.alloc hbw.size o
  have j0 : ∀ o, (w1.alloc o).cell? ⟨w.heap.size, 0, none⟩ = some (.int .i64 f) := fun o => (World.cell?_of_block (Below.heap_alloc w1 o _ (by show w.heap.size < _; omega))).trans (cell_of_row w1 _ 0 _ _ _ k1)
  have j1 : ∀ o, (w1.alloc o).cell? ⟨w.heap.size, 1, none⟩ = some (.slice A l.length c) := fun o => (World.cell?_of_block (Below.heap_alloc w1 o _ (by show w.heap.size < _; omega))).trans (cell_of_row w1 _ 1 _ _ _ k1)
  by_cases he : er = 0
  · subst he
    have HO : Hid (chIs ⟨f, l⟩ = chEq ⟨f, l⟩ ⟨nf, nl⟩) := by unfold Hid chIs; rw [HR.out]; rfl
    have csx := fun o => same_ch f nf (.slice A l.length c) (.slice A1 nl.length c1) l nl S _ (w1.alloc o) (Rd.below ⟨A, c, rfl, hA, hr⟩ (hba o)) (Rd.below (S := fun k => (w.alloc (.cells #[.int .i64 f, .slice A l.length c] 24)).heap.size ≤ k) ⟨A1, c1, rfl, hA1, hr1⟩ ((Below.refl _ _).alloc (Nat.le_refl _) _))
    go_wp2_with fail
    with_reducible refine (csx _).mono ?_
    rintro e w2 ⟨rfl, hb2⟩
    go_wp2_with fail
    go_ret
    exact ⟨by rw [HO.out]; rfl, (hba _).trans (hb2.mono (hba _).size)⟩
  · have HO : Hid (chIs ⟨f, l⟩ = false) := by unfold Hid chIs; rw [HR.out]; simp [he]
    have heb : (er == 0) = false := by simp [he]
    have HE := Lib.hid he
    clear he
    go_wp2_with fail
    go_ret
    exact ⟨by rw [HO.out]; rfl, hba _⟩
end Go.Proofs.YtaemajcpgmaapaaDoor

namespace Go.Proofs.YtaemajcpgmaapaaDoor
open Go.RowKit Go.WideShapes Go.ChangeShapes

theorem und28 : Tryd.prog.underlying 28 = some (.slice 102) := by kernel_rfl
theorem und22 : Tryd.prog.underlying 22 = some (.slice 30) := by kernel_rfl
theorem undString : Tryd.prog.underlying 9 = some .string := by kernel_rfl
theorem undInt : Tryd.prog.underlying 3 = some (.int .i64) := by kernel_rfl

section
variable {H : Type} {enc : TypeId × Value → H} {w : World} {base : Nat} {sp : Nat → Bool} {held : Bool}
/-- Nothing that it holds is longer than the form lets be. -/
def WB (t : TypeId) (d : DataW H) : Prop := ∀ n ∈ d.weights Tryd.prog t, n ≤ reachBytes
theorem wb_all {e : TypeId} : ∀ {l : List (DataW H)}, (∀ n ∈ DataW.weightsAll Tryd.prog e l, n ≤ reachBytes) → ∀ d ∈ l, WB e d
  | [], _, _, h => by cases h
  | a :: l, h, d, hd => by
    unfold DataW.weightsAll at h
    cases hd with
    | head => exact fun n hn => h n (List.mem_append_left _ hn)
    | tail _ hd => exact wb_all (fun n hn => h n (List.mem_append_right _ hn)) d hd
theorem wb_slice {t e : TypeId} (ht : Tryd.prog.underlying t = some (.slice e)) {es ss : List (DataW H)} (h : WB t (.slice es ss)) : (es.length + ss.length) * Tryd.prog.bytesOf e ≤ reachBytes ∧ ∀ d ∈ es, WB e d := by
  have h' : ∀ n ∈ (es.length + ss.length) * Tryd.prog.bytesOf e :: (DataW.weightsAll Tryd.prog e es ++ DataW.weightsAll Tryd.prog e ss), n ≤ reachBytes := by
    intro n hn
    refine h n ?_
    rw [DataW.weights, ht]
    exact hn
  exact ⟨h' _ (.head _), wb_all fun n hn => h' n (.tail _ (List.mem_append_left _ hn))⟩
theorem wb_each : ∀ {ts : List TypeId} {ds : List (DataW H)}, (∀ n ∈ DataW.weightsEach Tryd.prog ts ds, n ≤ reachBytes) → ∀ (i : Nat) (t : TypeId) (d : DataW H), ts[i]? = some t → ds[i]? = some d → WB t d
  | [], _, _, i, _, _, ht, _ => by simp at ht
  | _ :: _, [], _, i, _, _, _, hd => by simp at hd
  | t0 :: ts, d0 :: ds, h, i, t, d, ht, hd => by
    unfold DataW.weightsEach at h
    cases i with
    | zero =>
      simp at ht hd
      subst ht hd
      exact fun n hn => h n (List.mem_append_left _ hn)
    | succ i => exact wb_each (fun n hn => h n (List.mem_append_right _ hn)) i t d (by simpa using ht) (by simpa using hd)
theorem wb_agg {t : TypeId} {fs : Array Field} (ht : Tryd.prog.underlying t = some (.struct fs)) {ds : List (DataW H)} (h : WB t (.agg ds)) (i : Nat) (f : Field) (d : DataW H) (hf : fs.toList[i]? = some f) (hd : ds[i]? = some d) : WB f.type d := by
  refine wb_each (ts := fs.toList.map (·.type)) (fun n hn => h n ?_) i f.type d (by simp [hf]) hd
  rw [DataW.weights, ht]
  exact hn
theorem wb_string {t : TypeId} {b : List UInt8} (h : WB (H := H) t (.lit (.string b))) : b.length ≤ 140737488355328 := by
  have : b.length ≤ reachBytes := h _ (by rw [DataW.weights]; exact .head _)
  unfold reachBytes at this
  omega

def strV : Value → ByteArray
  | .string s => s
  | _ => ⟨#[]⟩
def intV : Value → Int
  | .int _ n => n
  | _ => 0

theorem sz_list (s : ByteArray) : s.data.toList.length = s.size := Array.length_toList
/-- A row of attributes. -/
theorem open_attrs {fuel : Nat} {cs : List Value} {x : DataW H × List MemPlace} (h : DataW.trod enc Tryd.prog w base sp held fuel 28 cs = some x) (hw : WB 28 x.1) :
    ∃ va l, cs = [va] ∧ Rd KA (fun _ => True) w va l := by
  rcases Deep.open_slice_pairs (f0 := { name := "Key", type := 9, offset := 0, embedded := false, tag := "", pkgPath := "", byteOffset := 0 }) (f1 := { name := "Value", type := 9, offset := 1, embedded := false, tag := "", pkgPath := "", byteOffset := 16 })
    und28 (by kernel_rfl) (by kernel_rfl) rfl rfl (by kernel_rfl) (by kernel_rfl) h with ⟨rfl, _⟩ | ⟨a, len, cap, m, n, V0, V1, D0, D1, P0, P1, rfl, hb, hl, hm, hmm, rfl, hx⟩
  · exact ⟨_, [], rfl, Rd.nil _ _ _ _ _ (by simp)⟩
  · obtain ⟨hlen, hel⟩ := wb_slice und28 hw
    have hby : Tryd.prog.bytesOf 102 = 32 := by kernel_rfl
    rw [hby] at hlen
    simp only [List.length_map, List.length_range] at hlen
    unfold reachBytes at hlen
    have hlm : len ≤ m := by rw [hmm]; split <;> omega
    refine ⟨_, (List.range len).map fun i => ⟨strV (V0 i), strV (V1 i)⟩, rfl, some a, cap, ?_, ⟨by simp, by simpa using hl⟩, by simp [KA]; omega, fun k hk => ?_⟩
    · simp
    · have hk' : k < len := by simpa using hk
      obtain ⟨h0, h1, t0, t1⟩ := hx k (by omega)
      obtain ⟨s0, e0, q0, _⟩ := DataW.trod_string undString t0
      obtain ⟨s1, e1, q1, _⟩ := DataW.trod_string undString t1
      injection e0 with e0
      injection e1 with e1
      rw [e0] at h0
      rw [e1] at h1
      simp only [Prod.mk.injEq] at q0 q1
      have hW := hel (.agg [D0 k, D1 k]) (List.mem_map.2 ⟨k, List.mem_range.2 hk', rfl⟩)
      have w0 := wb_agg (f := { name := "Key", type := 9, offset := 0, embedded := false, tag := "", pkgPath := "", byteOffset := 0 }) (fs := #[{ name := "Key", type := 9, offset := 0, embedded := false, tag := "", pkgPath := "", byteOffset := 0 }, { name := "Value", type := 9, offset := 1, embedded := false, tag := "", pkgPath := "", byteOffset := 16 }]) (by kernel_rfl) hW 0 _ rfl rfl
      have w1 := wb_agg (f := { name := "Value", type := 9, offset := 1, embedded := false, tag := "", pkgPath := "", byteOffset := 16 }) (fs := #[{ name := "Key", type := 9, offset := 0, embedded := false, tag := "", pkgPath := "", byteOffset := 0 }, { name := "Value", type := 9, offset := 1, embedded := false, tag := "", pkgPath := "", byteOffset := 16 }]) (by kernel_rfl) hW 1 _ rfl rfl
      rw [q0.1] at w0
      rw [q1.1] at w1
      have f0 := wb_string w0
      have f1 := wb_string w1
      rw [sz_list] at f0 f1
      obtain ⟨b, o, spt⟩ := a
      have hspot : spt = none := by
        have := World.cell?_spot (hx 0 (by omega)).1
        simpa [Addr.add] using this
      subst hspot
      rw [Addr.add_lit] at h0 h1
      refine ⟨b, o, [.string s0, .string s1], rfl, trivial, World.block_lt_of_cell? _ _ h0, ?_, fun j x hj => ?_⟩
      · show [Value.string s0, .string s1] = _ ∧ _
        simp only [List.getElem_map, List.getElem_range, e0, e1, strV]
        exact ⟨trivial, f0, f1⟩
      · match j, hj with
        | 0, hj => simp at hj; subst hj; exact h0
        | 1, hj => simp at hj; subst hj; rw [Nat.add_assoc]; exact h1

theorem cells_at {a : Addr} {k m : Nat} {cs : List Value} (h : w.cells? base (a.add k) m = some cs) : cs.length = m ∧ ∀ j, j < m → w.cell? (a.add (k + j)) = cs[j]? := by
  obtain ⟨_, hlen, hcell⟩ := World.cells?_some h
  refine ⟨hlen, fun j hj => ?_⟩
  have := hcell j hj
  rw [Deep.add_add] at this
  rw [this, List.getElem?_eq_getElem (by omega)]
theorem reach_le : reachBytes ≤ 140737488355328 := by unfold reachBytes; omega

/-- An operation's field, by its place. -/
def fOp : Array Field := #[{ name := "Kind", type := 3, offset := 0, embedded := false, tag := "", pkgPath := "", byteOffset := 0 }, { name := "N", type := 3, offset := 1, embedded := false, tag := "", pkgPath := "", byteOffset := 8 }, { name := "Text", type := 9, offset := 2, embedded := false, tag := "", pkgPath := "", byteOffset := 16 }, { name := "Attrs", type := 28, offset := 3, embedded := false, tag := "", pkgPath := "", byteOffset := 32 }]
theorem und30 : Tryd.prog.underlying 30 = some (.struct fOp) := by kernel_rfl
theorem cel30 : Tryd.prog.cellsOf 30 = 4 := by kernel_rfl
theorem celInt : Tryd.prog.cellsOf 3 = 1 := by kernel_rfl
theorem celString : Tryd.prog.cellsOf 9 = 1 := by kernel_rfl
theorem cel28 : Tryd.prog.cellsOf 28 = 1 := by kernel_rfl
theorem cel22 : Tryd.prog.cellsOf 22 = 1 := by kernel_rfl
theorem by30 : Tryd.prog.bytesOf 30 = 56 := by kernel_rfl
theorem open_op {n : Nat} {cs : List Value} {x : DataW H × List MemPlace} (hl : cs.length = 4) (h : DataW.trod enc Tryd.prog w base sp held n 30 cs = some x) (hw : WB 30 x.1) :
    ∃ o : Op, KO.rep (fun _ => True) w o cs := by
  match cs, hl with
  | [v0, v1, v2, v3], _ =>
    obtain ⟨y0, y1, y2, y3, n', rfl, _, t0, t1, t2, t3⟩ := Joins.trod_struct4 und30 h
    simp only [celInt, celString, cel28, List.drop_zero, List.drop_succ_cons, List.take_succ_cons, List.take_zero] at t0 t1 t2 t3
    obtain ⟨k, e0, q0, _⟩ := DataW.trod_int undInt t0
    obtain ⟨m, e1, q1, _⟩ := DataW.trod_int undInt t1
    obtain ⟨s, e2, q2, _⟩ := DataW.trod_string undString t2
    injection e0 with e0
    injection e1 with e1
    injection e2 with e2
    have w2 := wb_agg und30 hw 2 _ _ rfl rfl
    have w3 := wb_agg und30 hw 3 _ _ rfl rfl
    obtain ⟨va, l, e3, hva⟩ := open_attrs t3 w3
    injection e3 with e3
    rw [q2] at w2
    have f2 := wb_string w2
    rw [sz_list] at f2
    subst e0 e1 e2 e3
    exact ⟨⟨k, m, s, l⟩, v3, rfl, hva, f2⟩
/-- A row of operations. -/
theorem open_ops {fuel : Nat} {cs : List Value} {x : DataW H × List MemPlace} (h : DataW.trod enc Tryd.prog w base sp held fuel 22 cs = some x) (hw : WB 22 x.1) :
    ∃ vo l, cs = [vo] ∧ Rd KO (fun _ => True) w vo l := by
  rcases Deep.open_slice und22 h with ⟨rfl, _⟩ | ⟨a, len, cap, m, n, D, Pl, rfl, hb, hl, hm, hmm, rfl, hx⟩
  · exact ⟨_, [], rfl, Rd.nil _ _ _ _ _ (by simp)⟩
  · obtain ⟨hlen, hel⟩ := wb_slice und22 hw
    rw [by30] at hlen
    simp only [List.length_map, List.length_range] at hlen
    have := reach_le
    have hlm : len ≤ m := by rw [hmm]; split <;> omega
    have each : ∀ i, i < len → ∃ o : Op, ∃ cs', w.cells? base (a.add (i * 4)) 4 = some cs' ∧ KO.rep (fun _ => True) w o cs' := fun i hi => by
      obtain ⟨cs', h1, h2⟩ := hx i (by omega)
      rw [cel30] at h1
      obtain ⟨o, ho⟩ := open_op (cells_at h1).1 h2 (hel (D i) (List.mem_map.2 ⟨i, List.mem_range.2 hi, rfl⟩))
      exact ⟨o, cs', h1, ho⟩
    obtain ⟨q, hq⟩ := Deep.choose_lt each
    refine ⟨_, (List.range len).map q, rfl, some a, cap, by simp, ⟨by simp, by simpa using hl⟩, by simp only [List.length_map, List.length_range]; show len * 56 ≤ _; omega, fun k hk => ?_⟩
    have hk' : k < len := by simpa using hk
    obtain ⟨cs', h1, ho⟩ := hq k hk'
    obtain ⟨c1, c2⟩ := cells_at h1
    obtain ⟨b, o, spt⟩ := a
    have hspot : spt = none := by
      obtain ⟨cs0, h0, _⟩ := hq 0 (by omega)
      have c0 := (cells_at h0).2 0 (by omega)
      have l0 := (cells_at h0).1
      rw [List.getElem?_eq_getElem (by omega)] at c0
      have := World.cell?_spot c0
      simpa [Addr.add] using this
    subst hspot
    have hc0 := c2 0 (by omega)
    rw [List.getElem?_eq_getElem (by omega), Addr.add_lit] at hc0
    refine ⟨b, o, cs', rfl, trivial, World.block_lt_of_cell? _ _ hc0, by simpa using ho, fun j x hj => ?_⟩
    have hj4 : j < 4 := by have := (List.getElem?_eq_some_iff.1 hj).1; omega
    have := c2 j hj4
    rw [Addr.add_lit, ← Nat.add_assoc] at this
    exact this.trans hj
/-- A changeset's fields. -/
def fFrom : Field := { name := "From", type := 3, offset := 0, embedded := false, tag := "", pkgPath := "", byteOffset := 0 }
def fOps : Field := { name := "Ops", type := 22, offset := 1, embedded := false, tag := "", pkgPath := "", byteOffset := 8 }
theorem und24 : Tryd.prog.underlying 24 = some (.struct #[fFrom, fOps]) := by kernel_rfl
theorem cel24 : Tryd.prog.cellsOf 24 = 2 := by kernel_rfl
set_option maxRecDepth 100000 in
/-- A changeset as an argument. -/
theorem open_change {r : Reach} {b0 : Nat} {v : Value} {d : DataW H} {ps : List MemPlace} (hv : Value.okWide Tryd.prog w r b0 24 v) (h : DataW.Trod enc Tryd.prog w base sp held 24 v d ps) (hw : WB 24 d) :
    ∃ f vo l, v = .agg #[.int .i64 f, vo] ∧ Rd KO (fun _ => True) w vo l := by
  obtain ⟨v0, v1, y0, y1, n, rfl, rfl, rfl, t0, t1⟩ := Joins.open_agg2 und24 (by kernel_rfl) cel24 hv h
  obtain ⟨f, e0, q0, _⟩ := DataW.trod_int undInt t0
  have w1 := wb_agg und24 hw 1 _ _ rfl rfl
  obtain ⟨vo, l, e1, hvo⟩ := open_ops t1 w1
  injection e0 with e0
  injection e1 with e1
  subst e0 e1
  exact ⟨f, _, l, rfl, hvo⟩
end
end Go.Proofs.YtaemajcpgmaapaaDoor

namespace Go.Proofs.YtaemajcpgmaapaaDoor
open Go.RowKit Go.WideShapes Go.ChangeShapes

theorem RdS.keep0 {α : Type} {K : Kd α} {S : Nat → Prop} {w w' : World} {A : Option Addr} {l : List α} (h : RdS K S w A l) (hk : ∀ k, S k → k < w.heap.size → w'.heap[k]? = w.heap[k]?) : RdS K S w' A l :=
  ⟨h.1, fun k hl => by
    obtain ⟨b, o, cs, e, hS, hb, hr, hc⟩ := h.2 k hl
    have hz := hk b hS hb
    refine ⟨b, o, cs, e, hS, ?_, K.keep hk hr, fun j x hx => (World.cell?_of_block hz).trans (hc j x hx)⟩
    rcases Nat.lt_or_ge b w'.heap.size with h' | h'
    · exact h'
    · rw [Array.getElem?_eq_none h', Array.getElem?_eq_getElem hb] at hz
      cases hz⟩
theorem Rd.keep0 {α : Type} {K : Kd α} {S : Nat → Prop} {w w' : World} {v : Value} {l : List α} (h : Rd K S w v l) (hk : ∀ k, S k → k < w.heap.size → w'.heap[k]? = w.heap[k]?) : Rd K S w' v l := by
  obtain ⟨A, c, e, hn, h⟩ := h
  exact ⟨A, c, e, hn, h.keep0 hk⟩
/-- A changeset in a row. -/
def KC : Kd Change where
  sz := 2
  bytes := 32
  bytesPos := by decide
  rep := fun S w c cs => ∃ va, cs = [.int .i64 c.from_, va] ∧ Rd KO S w va c.ops
  keep := fun hk h => by
    obtain ⟨va, e, h⟩ := h
    exact ⟨va, e, h.keep0 hk⟩
  imp := fun hi h => by
    obtain ⟨va, e, h⟩ := h
    exact ⟨va, e, h.imp hi⟩
theorem RdS.chg {S : Nat → Prop} {w : World} {A : Option Addr} {l : List Change} (h : RdS KC S w A l) (k : Nat) (hk : k < l.length) :
    ∃ b o A2 c2, A = some ⟨b, o, none⟩ ∧ S b ∧ b < w.heap.size ∧ w.cell? ⟨b, o + k * 2, none⟩ = some (.int .i64 l[k].from_) ∧ w.cell? ⟨b, o + k * 2 + 1, none⟩ = some (.slice A2 l[k].ops.length c2) ∧ Rd KO S w (.slice A2 l[k].ops.length c2) l[k].ops := by
  obtain ⟨b, o, cs, e, hS, hb, hr, hc⟩ := h.2 k hk
  obtain ⟨va, rfl, hv⟩ : ∃ va, cs = _ ∧ _ := hr
  obtain ⟨A2, c2, rfl, hx⟩ := hv
  exact ⟨b, o, A2, c2, e, hS, hb, hc 0 _ rfl, hc 1 _ rfl, ⟨A2, c2, rfl, hx⟩⟩

theorem undRuns : Tryd.prog.underlying 46 = some (.slice 104) := by kernel_rfl
theorem undChgs : Tryd.prog.underlying 34 = some (.slice 24) := by kernel_rfl
def fText : Field := { name := "Text", type := 9, offset := 0, embedded := false, tag := "", pkgPath := "", byteOffset := 0 }
def fAttrs : Field := { name := "Attrs", type := 28, offset := 1, embedded := false, tag := "", pkgPath := "", byteOffset := 16 }
theorem undRun : Tryd.prog.underlying 104 = some (.struct #[fText, fAttrs]) := by kernel_rfl
theorem celRun : Tryd.prog.cellsOf 104 = 2 := by kernel_rfl
theorem byRun : Tryd.prog.bytesOf 104 = 40 := by kernel_rfl
theorem byChg : Tryd.prog.bytesOf 24 = 32 := by kernel_rfl

section
variable {H : Type} {enc : TypeId × Value → H} {w : World} {base : Nat} {sp : Nat → Bool} {held : Bool}
theorem open_run {n : Nat} {cs : List Value} {x : DataW H × List MemPlace} (hl : cs.length = 2) (h : DataW.trod enc Tryd.prog w base sp held n 104 cs = some x) (hw : WB 104 x.1) :
    ∃ r : Run, KR.rep (fun _ => True) w r cs := by
  match cs, hl with
  | [v0, v1], _ =>
    obtain ⟨y0, y1, n', rfl, _, t0, t1⟩ := trod_struct2 undRun h
    simp only [celString, cel28, fText, fAttrs, List.drop_zero, List.drop_succ_cons, List.take_succ_cons, List.take_zero] at t0 t1
    obtain ⟨s, e0, q0, _⟩ := DataW.trod_string undString t0
    injection e0 with e0
    have w0 := wb_agg undRun hw 0 _ _ rfl rfl
    have w1 := wb_agg undRun hw 1 _ _ rfl rfl
    obtain ⟨va, l, e1, hva⟩ := open_attrs t1 w1
    injection e1 with e1
    rw [q0] at w0
    have f0 := wb_string w0
    rw [sz_list] at f0
    subst e0 e1
    exact ⟨⟨s, l⟩, v1, rfl, hva, f0⟩
theorem open_chg {n : Nat} {cs : List Value} {x : DataW H × List MemPlace} (hl : cs.length = 2) (h : DataW.trod enc Tryd.prog w base sp held n 24 cs = some x) (hw : WB 24 x.1) :
    ∃ c : Change, KC.rep (fun _ => True) w c cs := by
  match cs, hl with
  | [v0, v1], _ =>
    obtain ⟨y0, y1, n', rfl, _, t0, t1⟩ := trod_struct2 und24 h
    simp only [celInt, cel22, fFrom, fOps, List.drop_zero, List.drop_succ_cons, List.take_succ_cons, List.take_zero] at t0 t1
    obtain ⟨k, e0, q0, _⟩ := DataW.trod_int undInt t0
    injection e0 with e0
    have w1 := wb_agg und24 hw 1 _ _ rfl rfl
    obtain ⟨va, l, e1, hva⟩ := open_ops t1 w1
    injection e1 with e1
    subst e0 e1
    exact ⟨⟨k, l⟩, v1, rfl, hva⟩
/-- A row of runs as an argument. -/
theorem open_runs {fuel : Nat} {cs : List Value} {x : DataW H × List MemPlace} (h : DataW.trod enc Tryd.prog w base sp held fuel 46 cs = some x) (hw : WB 46 x.1) :
    ∃ vo l, cs = [vo] ∧ Rd KR (fun _ => True) w vo l := by
  rcases Deep.open_slice undRuns h with ⟨rfl, _⟩ | ⟨a, len, cap, m, n, D, Pl, rfl, hb, hl, hm, hmm, rfl, hx⟩
  · exact ⟨_, [], rfl, Rd.nil _ _ _ _ _ (by simp)⟩
  · obtain ⟨hlen, hel⟩ := wb_slice undRuns hw
    rw [byRun] at hlen
    simp only [List.length_map, List.length_range] at hlen
    have := reach_le
    have hlm : len ≤ m := by rw [hmm]; split <;> omega
    have each : ∀ i, i < len → ∃ o : Run, ∃ cs', w.cells? base (a.add (i * 2)) 2 = some cs' ∧ KR.rep (fun _ => True) w o cs' := fun i hi => by
      obtain ⟨cs', h1, h2⟩ := hx i (by omega)
      rw [celRun] at h1
      obtain ⟨o, ho⟩ := open_run (cells_at h1).1 h2 (hel (D i) (List.mem_map.2 ⟨i, List.mem_range.2 hi, rfl⟩))
      exact ⟨o, cs', h1, ho⟩
    obtain ⟨q, hq⟩ := Deep.choose_lt each
    refine ⟨_, (List.range len).map q, rfl, some a, cap, by simp, ⟨by simp, by simpa using hl⟩, by simp only [List.length_map, List.length_range]; show len * 40 ≤ _; omega, fun k hk => ?_⟩
    have hk' : k < len := by simpa using hk
    obtain ⟨cs', h1, ho⟩ := hq k hk'
    obtain ⟨c1, c2⟩ := cells_at h1
    obtain ⟨b, o, spt⟩ := a
    have hspot : spt = none := by
      obtain ⟨cs0, h0, _⟩ := hq 0 (by omega)
      have c0 := (cells_at h0).2 0 (by omega)
      have l0 := (cells_at h0).1
      rw [List.getElem?_eq_getElem (by omega)] at c0
      have := World.cell?_spot c0
      simpa [Addr.add] using this
    subst hspot
    have hc0 := c2 0 (by omega)
    rw [List.getElem?_eq_getElem (by omega), Addr.add_lit] at hc0
    refine ⟨b, o, cs', rfl, trivial, World.block_lt_of_cell? _ _ hc0, by simpa using ho, fun j x hj => ?_⟩
    have hj4 : j < 2 := by have := (List.getElem?_eq_some_iff.1 hj).1; omega
    have := c2 j hj4
    rw [Addr.add_lit, ← Nat.add_assoc] at this
    exact this.trans hj
/-- A row of changesets as an argument. -/
theorem open_changes {fuel : Nat} {cs : List Value} {x : DataW H × List MemPlace} (h : DataW.trod enc Tryd.prog w base sp held fuel 34 cs = some x) (hw : WB 34 x.1) :
    ∃ vo l, cs = [vo] ∧ Rd KC (fun _ => True) w vo l := by
  rcases Deep.open_slice undChgs h with ⟨rfl, _⟩ | ⟨a, len, cap, m, n, D, Pl, rfl, hb, hl, hm, hmm, rfl, hx⟩
  · exact ⟨_, [], rfl, Rd.nil _ _ _ _ _ (by simp)⟩
  · obtain ⟨hlen, hel⟩ := wb_slice undChgs hw
    rw [byChg] at hlen
    simp only [List.length_map, List.length_range] at hlen
    have := reach_le
    have hlm : len ≤ m := by rw [hmm]; split <;> omega
    have each : ∀ i, i < len → ∃ o : Change, ∃ cs', w.cells? base (a.add (i * 2)) 2 = some cs' ∧ KC.rep (fun _ => True) w o cs' := fun i hi => by
      obtain ⟨cs', h1, h2⟩ := hx i (by omega)
      rw [cel24] at h1
      obtain ⟨o, ho⟩ := open_chg (cells_at h1).1 h2 (hel (D i) (List.mem_map.2 ⟨i, List.mem_range.2 hi, rfl⟩))
      exact ⟨o, cs', h1, ho⟩
    obtain ⟨q, hq⟩ := Deep.choose_lt each
    refine ⟨_, (List.range len).map q, rfl, some a, cap, by simp, ⟨by simp, by simpa using hl⟩, by simp only [List.length_map, List.length_range]; show len * 32 ≤ _; omega, fun k hk => ?_⟩
    have hk' : k < len := by simpa using hk
    obtain ⟨cs', h1, ho⟩ := hq k hk'
    obtain ⟨c1, c2⟩ := cells_at h1
    obtain ⟨b, o, spt⟩ := a
    have hspot : spt = none := by
      obtain ⟨cs0, h0, _⟩ := hq 0 (by omega)
      have c0 := (cells_at h0).2 0 (by omega)
      have l0 := (cells_at h0).1
      rw [List.getElem?_eq_getElem (by omega)] at c0
      have := World.cell?_spot c0
      simpa [Addr.add] using this
    subst hspot
    have hc0 := c2 0 (by omega)
    rw [List.getElem?_eq_getElem (by omega), Addr.add_lit] at hc0
    refine ⟨b, o, cs', rfl, trivial, World.block_lt_of_cell? _ _ hc0, by simpa using ho, fun j x hj => ?_⟩
    have hj4 : j < 2 := by have := (List.getElem?_eq_some_iff.1 hj).1; omega
    have := c2 j hj4
    rw [Addr.add_lit, ← Nat.add_assoc] at this
    exact this.trans hj
end
end Go.Proofs.YtaemajcpgmaapaaDoor
