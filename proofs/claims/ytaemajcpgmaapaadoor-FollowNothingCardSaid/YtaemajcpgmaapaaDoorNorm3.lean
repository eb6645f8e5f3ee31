/- The walk: change.Normal. -/
import Derived.Test.YtaemajcpgmaapaaDoorNorm2
namespace Go.Proofs.YtaemajcpgmaapaaDoor
open Go.RowKit

/-- What Normal holds between its rounds. -/
structure NInv (w wr : World) (B1 B2 mb : Nat) (f : Int) (vo v : Value) (s : List Op × Int) : Prop where
  below : Below w.heap.size w wr
  c1 : wr.heap[B1]? = some (.cells #[.int .i64 f, vo] 24 (0, 0))
  c2 : wr.heap[B2]? = some (.cells #[.int .i64 0, .slice none 0 0] 24 (0, 0))
  m : wr.heap[mb]? = some (.cells #[v, .int .i64 s.2] 97 (0, 0))
  own : OwnO w.heap.size wr v s.1
  l1 : w.heap.size ≤ mb
theorem NInv.step {w wr w' : World} {B1 B2 mb : Nat} {f : Int} {vo v v' : Value} {s s' : List Op × Int} (h : NInv w wr B1 B2 mb f vo v s) (hc : Chg (fun k => k = mb ∨ v.ownBlock = some k) wr w')
    (hm : w'.heap[mb]? = some (.cells #[v', .int .i64 s'.2] 97 (0, 0))) (ho : OwnO w.heap.size w' v' s'.1) : NInv w w' B1 B2 mb f vo v' s' := by
  have hne : ∀ B cs, wr.heap[B]? = some (.cells cs 24 (0, 0)) → ¬ (B = mb ∨ v.ownBlock = some B) := by
    intro B cs hB e
    rcases e with e | e
    · subst e
      have := h.m
      rw [hB] at this
      injection this with this
      injection this with _ ht
      exact absurd ht (by decide)
    · exact own_ne_blockO h.own hB (by decide) B e rfl
  refine ⟨h.below.trans (hc.below h.below.size fun k hk => ?_), (hc.block B1 (Array.getElem?_eq_some_iff.1 h.c1).1 (hne _ _ h.c1)).trans h.c1, (hc.block B2 (Array.getElem?_eq_some_iff.1 h.c2).1 (hne _ _ h.c2)).trans h.c2, hm, ho, h.l1⟩
  rcases hk with hk | hk
  · rw [hk]; exact h.l1
  · exact (h.own.lt k hk).1

theorem normal_end (w : World) (a : Act) (W : World) {f : Int} {l L : List Op} {A3 : Option Addr} {n : Nat} (hb : Below w.heap.size w W) (b2 : W.heap[w.heap.size + 1]? = some (.cells #[.int .i64 0, .slice none 0 0] 24 (0, 0)))
    (hN : nmR ⟨f, l⟩ = (⟨f, normL l⟩, 0)) (hL : normL l = L) (hr : RowO w.heap.size W (.slice A3 n n) L) (hs3 : a.tmps[3]?.getD undef = .int .i64 0) (hs2 : a.tmps[2]?.getD undef = .pointer (some ⟨w.heap.size + 1, 0, none⟩)) (hd : a.defers = []) :
    bodyPost Tryd.prog Tryd.f36 (fun e w' => ∃ v', e = .returned (.tuple #[.agg #[.int .i64 (nmR ⟨f, l⟩).1.from_, v'], .int .i64 (nmR ⟨f, l⟩).2]) ∧ Below w.heap.size w w' ∧ RowO w.heap.size w' v' (nmR ⟨f, l⟩).1.ops) .ret a ((W.setCell ⟨w.heap.size + 1, 0, none⟩ (.int .i64 f)).setCell ⟨w.heap.size + 1, 1, none⟩ (.slice A3 n n)).drew := by
  have k5 : W.cell? ⟨w.heap.size + 1, 0, none⟩ = some (.int .i64 0) := cell_of_row _ _ 0 _ _ _ b2
  have k6 : W.cell? ⟨w.heap.size + 1, 1, none⟩ = some (.slice none 0 0) := cell_of_row _ _ 1 _ _ _ b2
  have r0 : ((W.setCell ⟨w.heap.size + 1, 0, none⟩ (.int .i64 f)).setCell ⟨w.heap.size + 1, 1, none⟩ (.slice A3 n n)).cell? ⟨w.heap.size + 1, 0, none⟩ = some (.int .i64 f) := (World.cell?_setCell_other _ _ _ _ (by simp)).trans (World.cell?_setCell_same _ _ _ k5)
  have r1 : ((W.setCell ⟨w.heap.size + 1, 0, none⟩ (.int .i64 f)).setCell ⟨w.heap.size + 1, 1, none⟩ (.slice A3 n n)).cell? ⟨w.heap.size + 1, 1, none⟩ = some (.slice A3 n n) := World.cell?_setCell_same _ _ _ ((World.cell?_setCell_other _ _ _ _ (by simp)).trans k6)
  have hc : Chg (fun k => k = w.heap.size + 1) W ((W.setCell ⟨w.heap.size + 1, 0, none⟩ (.int .i64 f)).setCell ⟨w.heap.size + 1, 1, none⟩ (.slice A3 n n)).drew :=
    (((Chg.refl (fun k => k = w.heap.size + 1) W).setCell (p := ⟨w.heap.size + 1, 0, none⟩) _ fun _ => rfl).setCell (p := ⟨w.heap.size + 1, 1, none⟩) _ fun _ => rfl).drew
  subst hL
  rw [hN]
  refine bodyPost_ret (v := .tuple #[.agg #[.int .i64 f, .slice A3 n n], .int .i64 0]) ?_ hd ⟨.slice A3 n n, rfl, ?_, ?_⟩
  · simp [results, Tryd.results36, go_sem, r0, r1, hs2, hs3]
  · exact hb.trans (hc.below hb.size fun k hk => by rw [hk]; omega)
  · refine hr.chg hc (fun k hk e => ?_) (fun k _ hk e => ?_)
    · obtain ⟨_, _, cur, hk⟩ := hr.lt k hk
      subst e
      rw [b2] at hk
      injection hk with hk
      injection hk with _ ht
      exact absurd ht (by decide)
    · obtain ⟨cs', fr, hk⟩ := hk
      subst e
      rw [b2] at hk
      injection hk with hk
      injection hk with _ ht
      exact absurd ht (by decide)

set_option maxRecDepth 100000 in
set_option maxHeartbeats 4000000 in
theorem normal_ch (f : Int) (vo : Value) (l : List Op) (S : Nat → Prop) (w : World) (h : Rd KO S w vo l) (hT : Tabs w) :
    Calls Tryd.prog 36 #[.agg #[.int .i64 f, vo]] w fun e w' => ∃ v', e = .returned (.tuple #[.agg #[.int .i64 (nmR ⟨f, l⟩).1.from_, v'], .int .i64 (nmR ⟨f, l⟩).2]) ∧ Below w.heap.size w w' ∧ RowO w.heap.size w' v' (nmR ⟨f, l⟩).1.ops := by
  have cr := right_ch f vo l S
  obtain ⟨A, c, rfl, hA, hr⟩ := h
  have hlen := hr.len
  obtain ⟨er, HR⟩ : ∃ er, Hid ((toR ⟨f, l⟩).2 = er) := ⟨_, rfl⟩
  rw [HR.out] at cr
  have hb0 : Below w.heap.size w ((w.alloc (.cells #[.int .i64 f, .slice A l.length c] 24)).alloc (.cells #[.int .i64 0, .slice none 0 0] 24)) := ((Below.refl _ _).alloc (Nat.le_refl _) _).alloc (by simp) _
  by_cases he : er = 0
  · subst he
    have HN : Hid (nmR ⟨f, l⟩ = (⟨f, normL l⟩, 0)) := by unfold Hid nmR; rw [if_pos HR.out]
    go_enter Tryd.func36, Tryd.ntmps36
    go_wp2_with fail
    refine (cr _ (Rd.below ⟨A, c, rfl, hA, hr⟩ hb0) (hT.below hb0)).mono ?_
    rintro e w1 ⟨rfl, hb1⟩
    have k1 : w1.heap[w.heap.size]? = some (.cells #[.int .i64 f, .slice A l.length c] 24 (0, 0)) := (hb1.block _ (by simp; omega)).trans ((Below.heap_alloc _ _ _ (by simp)).trans (heap_alloc_new w _))
    have k2 : w1.heap[w.heap.size + 1]? = some (.cells #[.int .i64 0, .slice none 0 0] 24 (0, 0)) := (hb1.block _ (by simp)).trans (by simpa using heap_alloc_new (w.alloc (.cells #[.int .i64 f, .slice A l.length c] 24)) (.cells #[.int .i64 0, .slice none 0 0] 24))
    have hz1 : w.heap.size + 2 ≤ w1.heap.size := by have := hb1.size; simp at this; omega
    have hbw : Below w.heap.size w w1 := hb0.trans (hb1.mono hb0.size)
    have k3 : w1.cell? ⟨w.heap.size, 0, none⟩ = some (.int .i64 f) := cell_of_row w1 _ 0 _ _ _ k1
    have k4 : w1.cell? ⟨w.heap.size, 1, none⟩ = some (.slice A l.length c) := cell_of_row w1 _ 1 _ _ _ k1
    have k5 : w1.cell? ⟨w.heap.size + 1, 0, none⟩ = some (.int .i64 0) := cell_of_row w1 _ 0 _ _ _ k2
    have k6 : w1.cell? ⟨w.heap.size + 1, 1, none⟩ = some (.slice none 0 0) := cell_of_row w1 _ 1 _ _ _ k2
    have k7 : w1.frozen? ⟨w.heap.size + 1, 0, none⟩ = false := by simp [World.frozen?, k2]
    have k8 : w1.frozen? ⟨w.heap.size + 1, 1, none⟩ = false := by simp [World.frozen?, k2]
    have k4a : ∀ o, (w1.alloc o).cell? ⟨w.heap.size, 1, none⟩ = some (.slice A l.length c) := fun o => (World.cell?_of_block (Below.heap_alloc w1 o _ (by show w.heap.size < _; omega))).trans k4
    clear hb1
    go_wp2_with fail
    have inv0 : NInv w (w1.alloc (.cells #[.slice none 0 0, .int .i64 0] 97)) w.heap.size (w.heap.size + 1) w1.heap.size f (.slice A l.length c) (.slice none 0 0) ([], 0) :=
      ⟨hbw.alloc hbw.size _, (Below.heap_alloc w1 _ _ (by omega)).trans k1, (Below.heap_alloc w1 _ _ (by omega)).trans k2, heap_alloc_new w1 _, OwnO.nil _ _, hbw.size⟩
    have hOk := toR_ok HR.out
    have hl2 := hOk.2.2.1
    have hOps : Hid (∀ o ∈ l, opOk o) := hOk.2.2.2
    simp only at hl2
    clear hOk k1 k2 k3 k4 k5 k6 k7 k8 k4a
    generalize w1.alloc (.cells #[.slice none 0 0, .int .i64 0] 97) = W2 at *
    go_loopg [18] (l.length + 1) (fun g s18 wr => ∃ (k : Nat) (v : Value) (st : List Op × Int), k ≤ l.length ∧ l.length - k < g ∧ s18 = .int .i64 k ∧ NInv w wr w.heap.size (w.heap.size + 1) w1.heap.size f (.slice A l.length c) v st ∧ NB k st ∧ Aside ((l.drop k).foldl nStep st = l.foldl nStep ([], 0)))
    case atStart => exact ⟨0, _, _, Nat.zero_le _, by omega, rfl, inv0, ⟨by simp, by simp⟩, rfl⟩
    case round =>
      obtain ⟨k, v, ⟨sl, sg⟩, hk, hg, rfl, inv, hnb, Ad⟩ := hrel
      have hm : wr.heap[w1.heap.size]? = some (.cells #[v, .int .i64 sg] 97 (0, 0)) := inv.m
      have hmbw : w1.heap.size < wr.heap.size := (Array.getElem?_eq_some_iff.1 hm).1
      have hb := inv.below
      by_cases hlt : k < l.length
      · have hlz : (k : Int) < (l.length : Int) := by omega
        obtain ⟨b, o, A2, c2, rfl, hS, hbw0, hc0, hc1, hc2, hc3, hva, hft⟩ := hr.ops k hlt
        have hd0 := (hb.cell (p := ⟨b, o + k * 4, none⟩) hbw0).trans hc0
        have hd1 := (hb.cell (p := ⟨b, o + k * 4 + 1, none⟩) hbw0).trans hc1
        have hd2 := (hb.cell (p := ⟨b, o + k * 4 + 2, none⟩) hbw0).trans hc2
        have hd3 := (hb.cell (p := ⟨b, o + k * 4 + 3, none⟩) hbw0).trans hc3
        have hop := hOps.out l[k] (List.getElem_mem hlt)
        have hsz := hop.size
        have hstep : (l.drop k).foldl nStep (sl, sg) = (l.drop (k + 1)).foldl nStep (nStep (sl, sg) l[k]) := by rw [List.drop_eq_getElem_cons hlt]; rfl
        have hnb2 := hnb.step hsz
        have Ad2 : Aside ((l.drop (k + 1)).foldl nStep (nStep (sl, sg) l[k]) = l.foldl nStep ([], 0)) := hstep.symm.trans Ad
        generalize l[k] = op at *
        clear hc0 hc1 hc2 hc3 hstep Ad
        have hownlt := inv.own.lt
        have hbl := hnb.1
        have hbt := hnb.2
        have hbx : Below wr.heap.size wr (wr.alloc (.cells #[.int .i64 op.kind, .int .i64 op.n, .string op.text, .slice A2 op.attrs.length c2] 30)) := (Below.refl _ _).alloc (Nat.le_refl _) _
        have hbxc := heap_alloc_new wr (.cells #[.int .i64 op.kind, .int .i64 op.n, .string op.text, .slice A2 op.attrs.length c2] 30)
        by_cases h1 : op.kind = 1
        · have hk1 : (op.kind == 1) = true := by simp [h1]
          have HS : Hid (nStep (sl, sg) op = (putL (flushL (sl, sg)).1 op, (flushL (sl, sg)).2)) := by unfold Hid nStep; rw [if_pos h1]
          have HK := Lib.hid h1
          clear h1
          have hfl := fun W (hb : Below wr.heap.size wr W) => flush_ch w1.heap.size 97 v sl sg w.heap.size W ((hb.block w1.heap.size hmbw).trans hm) inv.l1 (by decide) (by decide) (inv.own.below hb) (by (try dsimp only at hbl); omega)
          have hfb := flushL_bd (s := (sl, sg)) hbt
          generalize flushL (sl, sg) = fs at *
          obtain ⟨fl, fg⟩ := fs
          go_wp2_with fail
          with_reducible refine (hfl _ hbx).mono ?_
          rintro e w3 ⟨rfl, v3, hm3, ho3, hc3, hv3⟩
          try dsimp only at hm3 ho3
          have hbx3 : w3.heap[wr.heap.size]? = some (.cells #[.int .i64 op.kind, .int .i64 op.n, .string op.text, .slice A2 op.attrs.length c2] 30 (0, 0)) :=
            (hc3.block wr.heap.size (by simp) (fun e => e.elim (fun e => by omega) (fun e => by have := hownlt _ e; omega))).trans hbxc
          have j0 : w3.cell? ⟨wr.heap.size, 0, none⟩ = some (.int .i64 op.kind) := cell_of_row w3 _ 0 _ _ _ hbx3
          have j1 : w3.cell? ⟨wr.heap.size, 1, none⟩ = some (.int .i64 op.n) := cell_of_row w3 _ 1 _ _ _ hbx3
          have j2 : w3.cell? ⟨wr.heap.size, 2, none⟩ = some (.string op.text) := cell_of_row w3 _ 2 _ _ _ hbx3
          have j3 : w3.cell? ⟨wr.heap.size, 3, none⟩ = some (.slice A2 op.attrs.length c2) := cell_of_row w3 _ 3 _ _ _ hbx3
          have hcw : Chg (fun k => k = w1.heap.size ∨ v.ownBlock = some k) wr w3 := Chg.trans (X := fun k => k = w1.heap.size ∨ v.ownBlock = some k) (Chg.of_below hbx _) hc3 fun k _ h => h
          have hbw3 : Below w.heap.size w w3 := hb.trans (hcw.below hb.size fun k hk => hk.elim (fun hk => by rw [hk]; exact inv.l1) (fun hk => (hownlt k hk).1))
          have hput := rowPut w1.heap.size #[v3, .int .i64 fg] 97 v3 fl w.heap.size op.kind op.n op.text (.slice A2 op.attrs.length c2) op.attrs S w3 hm3 rfl inv.l1 (by decide) (by decide) ho3 (hva.below hbw3) hft (fun x hx => by have := hfb.2 x hx; omega) (by have := hfb.1; (try dsimp only at this hbl); omega)
          go_wp2_with fail
          with_reducible refine hput.mono ?_
          rintro e w4 ⟨rfl, v4, hm4, ho4, hc4, hv4⟩
          go_wp2_with fail
          go_roundg (l.length + 1 - (k + 1))
          case measure => omega
          case rel =>
            refine ⟨k + 1, v4, _, by omega, by omega, by go_num, inv.step (s' := nStep (sl, sg) op) (Chg.trans hcw hc4 fun j hj e => ?_) (by rw [HS.out]; exact hm4) (by rw [HS.out]; exact ho4), hnb2, Ad2⟩
            rcases e with e | e
            · exact .inl e
            · rcases hv3 with hv | ⟨j', hv, hge⟩
              · exact .inr (by rw [← hv]; exact e)
              · rw [hv] at e; simp at e hge; omega
        · have hk1 : (op.kind == 1) = false := by simp [h1]
          by_cases h2 : op.kind = 2
          · have hk2 : (op.kind == 2) = true := by simp [h2]
            have HS : Hid (nStep (sl, sg) op = (putL sl op, sg)) := by unfold Hid nStep; rw [if_neg h1, if_pos h2]
            have HK := Lib.hid h2
            clear h2 h1
            have j0 : (wr.alloc (.cells #[.int .i64 op.kind, .int .i64 op.n, .string op.text, .slice A2 op.attrs.length c2] 30)).cell? ⟨wr.heap.size, 0, none⟩ = some (.int .i64 op.kind) := cell_of_row _ _ 0 _ _ _ hbxc
            have hput := rowPut w1.heap.size #[v, .int .i64 sg] 97 v sl w.heap.size op.kind op.n op.text (.slice A2 op.attrs.length c2) op.attrs S _ ((hbx.block w1.heap.size hmbw).trans hm) rfl inv.l1 (by decide) (by decide) (inv.own.below hbx) (hva.below (hb.trans (hbx.mono hb.size))) hft (fun x hx => by have := hbt x hx; omega) (by (try dsimp only at hbl); omega)
            go_wp2_with fail
            with_reducible refine hput.mono ?_
            rintro e w4 ⟨rfl, v4, hm4, ho4, hc4, hv4⟩
            go_wp2_with fail
            go_roundg (l.length + 1 - (k + 1))
            case measure => omega
            case rel =>
              refine ⟨k + 1, v4, _, by omega, by omega, by go_num, inv.step (s' := nStep (sl, sg) op) (Chg.trans (X := fun k => k = w1.heap.size ∨ v.ownBlock = some k) (Chg.of_below hbx _) hc4 fun j hj e => e) (by rw [HS.out]; exact hm4) (by rw [HS.out]; exact ho4), hnb2, Ad2⟩
          · have h3 : op.kind = 3 := by
              have := hop.1
              unfold shapedB at this
              rw [if_neg h2] at this
              split at this
              · assumption
              · simp only [Bool.and_eq_true, beq_iff_eq] at this; exact absurd this.1 h1
            have hk2 : (op.kind == 2) = false := by simp [h2]
            have hk3 : (op.kind == 3) = true := by simp [h3]
            have HS : Hid (nStep (sl, sg) op = (sl, wrap64 (sg + op.n))) := by unfold Hid nStep; rw [if_neg h1, if_neg h2, if_pos h3]
            have HK := Lib.hid h3
            clear h3 h2 h1
            have hmx := (hbx.block w1.heap.size hmbw).trans hm
            have j0 : (wr.alloc (.cells #[.int .i64 op.kind, .int .i64 op.n, .string op.text, .slice A2 op.attrs.length c2] 30)).cell? ⟨wr.heap.size, 1, none⟩ = some (.int .i64 op.n) := cell_of_row _ _ 1 _ _ _ hbxc
            have j1 : (wr.alloc (.cells #[.int .i64 op.kind, .int .i64 op.n, .string op.text, .slice A2 op.attrs.length c2] 30)).cell? ⟨w1.heap.size, 1, none⟩ = some (.int .i64 sg) := cell_of_row _ _ 1 _ _ _ hmx
            have j2 : (wr.alloc (.cells #[.int .i64 op.kind, .int .i64 op.n, .string op.text, .slice A2 op.attrs.length c2] 30)).frozen? ⟨w1.heap.size, 1, none⟩ = false := frozen_of_row _ _ 1 _ _ hmx
            go_wp2_with fail
            go_roundg (l.length + 1 - (k + 1))
            case measure => omega
            case rel =>
              have hcs : Chg (fun k => k = w1.heap.size) wr (wr.setCell ⟨w1.heap.size, 1, none⟩ (.int .i64 (wrap64 (sg + op.n)))) := (Chg.refl _ _).setCell _ fun _ => rfl
              have hown4 : OwnO w.heap.size (wr.setCell ⟨w1.heap.size, 1, none⟩ (.int .i64 (wrap64 (sg + op.n)))) v sl := inv.own.chg hcs (fun k hk e => own_ne_blockO inv.own hm (by decide) k hk e) (fun k _ hk e => by
                obtain ⟨cs', fr, hk⟩ := hk
                subst e
                rw [hm] at hk
                injection hk with hk
                injection hk with _ ht
                exact absurd ht (by decide))
              refine ⟨k + 1, v, _, by omega, by omega, by go_num, inv.step (s' := nStep (sl, sg) op) ((hcs.mono fun _ _ e => .inl e).alloc _) (by rw [HS.out]; exact (Below.heap_alloc _ _ _ (by simpa using hmbw)).trans (heap_setCell_same wr _ 1 _ _ _ hm)) (by rw [HS.out]; exact hown4.below ((Below.refl _ _).alloc (Nat.le_refl _) _)), hnb2, Ad2⟩
      · have hlz : ¬ (k : Int) < (l.length : Int) := by omega
        obtain rfl : k = l.length := by omega
        have hst : Hid (l.foldl nStep ([], 0) = (sl, sg)) := by rw [List.drop_length] at Ad; exact Ad.symm
        clear Ad
        have hownlt := inv.own.lt
        have hbl := hnb.1
        have hbt := hnb.2
        have hfl := flush_ch w1.heap.size 97 v sl sg w.heap.size wr hm inv.l1 (by decide) (by decide) inv.own (by (try dsimp only at hbl); omega)
        have HNS : Hid (normS l = flushL (sl, sg)) := by unfold Hid normS; rw [hst.out]
        generalize flushL (sl, sg) = fs at *
        obtain ⟨fl, fg⟩ := fs
        go_wp2_with fail
        with_reducible refine hfl.mono ?_
        rintro e w3 ⟨rfl, v3, hm3, ho3, hc3, hv3⟩
        have inv3 := inv.step (s' := (fl, fg)) hc3 hm3 ho3
        have b1 := inv3.c1
        have b2 := inv3.c2
        have g0 : w3.cell? ⟨w1.heap.size, 0, none⟩ = some v3 := cell_of_row _ _ 0 _ _ _ inv3.m
        obtain ⟨A3, c3, rfl, hA3, hr3⟩ := ho3.rd
        have hgm : w1.heap.size ≠ w.heap.size := by omega
        rcases List.eq_nil_or_concat fl with rfl | ⟨l0, x, rfl⟩
        · have HL : Hid (normL l = []) := by unfold Hid normL; rw [HNS.out]; rfl
          have hrow := ho3.row
          have hbW := inv3.below
          simp only [List.length_nil] at g0 hrow
          have e2 := g0
          go_wp2_with fail
          have e1 : w3.cell? ⟨w.heap.size, 0, none⟩ = some (.int .i64 f) := cell_of_row _ _ 0 _ _ _ b1
          have e3 : w3.cell? ⟨w.heap.size + 1, 0, none⟩ = some (.int .i64 0) := cell_of_row _ _ 0 _ _ _ b2
          have e4 : w3.cell? ⟨w.heap.size + 1, 1, none⟩ = some (.slice none 0 0) := cell_of_row _ _ 1 _ _ _ b2
          have e5 : w3.frozen? ⟨w.heap.size + 1, 0, none⟩ = false := frozen_of_row _ _ 0 _ _ b2
          have e6 : w3.frozen? ⟨w.heap.size + 1, 1, none⟩ = false := frozen_of_row _ _ 1 _ _ b2
          obtain ⟨he0, hcA, hcn, hcm, hrow2⟩ := hrow.clip
          clear he0
          have hclip := clip_any A3 (0) c3 hcA hcn hcm
          go_region_held3 (fun w' => w'.cell? ⟨w.heap.size, 0, none⟩ = some (.int .i64 f) ∧ w'.cell? ⟨w1.heap.size, 0, none⟩ = some (.slice A3 (0) c3))
            (first | exact ⟨e1, e2⟩ | exact ⟨(World.cell?_setCell_other _ _ _ _ (by intro e; injection e; omega)).trans ((World.cell?_setCell_other _ _ _ _ (by intro e; injection e; omega)).trans e1), (World.cell?_setCell_other _ _ _ _ (by intro e; injection e; omega)).trans ((World.cell?_setCell_other _ _ _ _ (by intro e; injection e; omega)).trans e2)⟩ | go_keep)
            (first | (go_at_call 95; refine (hclip _).mono ?_; rintro e w5 ⟨rfl, rfl⟩))
          go_wp2_with fail
          exact normal_end w _ w3 hbW b2 HN.out HL.out hrow2 rfl rfl rfl
        · rw [List.concat_eq_append] at *
          have el : (l0 ++ [x]).length = l0.length + 1 := by simp
          rw [el] at g0 ho3
          obtain ⟨g0', rfl⟩ : ∃ g0', A3 = some ⟨g0', 0, none⟩ := by
            obtain ⟨ps, hps, h1, _, _⟩ := ho3
            rcases h1.2 with ⟨h', _⟩ | ⟨g', cap', cur', h', _⟩
            · simp at h'
            · simp at h'
              exact ⟨g', by rw [h'.1]⟩
          have g1 := g0
          clear g0
          obtain ⟨g0, hg0⟩ : ∃ g0, g0 = g0' := ⟨_, rfl⟩
          subst hg0
          obtain ⟨vx, hox, hfx, hx0, hx1, hx2, hx3, hxf⟩ := ho3.last
          obtain ⟨A4, c4, rfl, hA4, hr4⟩ := hox.rd
          have hlen3 : (l0.length + 1) * 56 ≤ 140737488355328 := by obtain ⟨_, _, _, _, h⟩ := ho3; rw [el] at h; exact h
          have hwr : IntKind.i64.wrap ((l0.length + 1 : Nat) - 1 : Int) = l0.length := by rw [show ((l0.length + 1 : Nat) - 1 : Int) = (l0.length : Int) by omega, IntKind.wrap_i64]; omega
          have hwr2 : IntKind.i64.wrap ((l0.length : Int) + 1 - 1) = l0.length := by rw [show ((l0.length : Int) + 1 - 1) = (l0.length : Int) by omega, IntKind.wrap_i64]; omega
          have hlt1 : (l0.length : Int) < (l0.length + 1 : Nat) := by omega
          have hlt2 : (l0.length : Int) < (l0.length : Int) + 1 := by omega
          have hlt3 : (0 : Int) ≤ (l0.length : Int) := by omega
          have hgl : (l0 ++ [x]).getLast? = some x := by simp
          by_cases hk1 : x.kind = 1
          · by_cases hat : x.attrs = []
            · have HL : Hid (normL l = l0) := by unfold Hid normL; rw [HNS.out]; unfold trimL; rw [hgl]; simp [hk1, hat]
              have hkb : (x.kind == 1) = true := by simp [hk1]
              have hab : ((x.attrs.length : Int) == 0) = true := by simp [hat]
              have HK := Lib.hid hk1
              have HA := Lib.hid hat
              clear hk1 hat
              have hcl := ho3.row.clip.2.2.1
              have hcm0 := ho3.row.clip.2.2.2.1
              have hcl2 : (l0.length : Int) ≤ (c3 : Int) := by omega
              have g1f := frozen_of_row w3 w1.heap.size 0 _ _ inv3.m
              go_wp2_with fail
              have hbW : Below w.heap.size w (w3.setCell ⟨w1.heap.size, 0, none⟩ (.slice (some ⟨g0, 0, none⟩) l0.length c3)) := inv3.below.setCell (p := ⟨w1.heap.size, 0, none⟩) inv3.l1 _
              have hcC : Chg (fun k => k = w1.heap.size) w3 (w3.setCell ⟨w1.heap.size, 0, none⟩ (.slice (some ⟨g0, 0, none⟩) l0.length c3)) := (Chg.refl _ _).setCell _ fun _ => rfl
              have b1 := (hcC.block w.heap.size (Array.getElem?_eq_some_iff.1 b1).1 (by omega)).trans b1
              have b2 := (hcC.block (w.heap.size + 1) (Array.getElem?_eq_some_iff.1 b2).1 (by omega)).trans b2
              have e2 : ((w3.setCell ⟨w1.heap.size, 0, none⟩ (.slice (some ⟨g0, 0, none⟩) l0.length c3))).cell? ⟨w1.heap.size, 0, none⟩ = some (.slice (some ⟨g0, 0, none⟩) l0.length c3) := World.cell?_setCell_same _ _ _ g1
              have hrow : RowO w.heap.size (w3.setCell ⟨w1.heap.size, 0, none⟩ (.slice (some ⟨g0, 0, none⟩) l0.length c3)) (.slice (some ⟨g0, 0, none⟩) l0.length c3) l0 := (ho3.row.cut c3 (by omega) (Nat.le_refl _)).chg hcC (fun k hk e => own_ne_blockO ho3 inv3.m (by decide) k hk e) (fun k _ hk e => by
                obtain ⟨cs', fr, hk⟩ := hk
                subst e
                rw [inv3.m] at hk
                injection hk with hk
                injection hk with _ ht
                exact absurd ht (by decide))
              have e1 : (w3.setCell ⟨w1.heap.size, 0, none⟩ (.slice (some ⟨g0, 0, none⟩) l0.length c3)).cell? ⟨w.heap.size, 0, none⟩ = some (.int .i64 f) := cell_of_row _ _ 0 _ _ _ b1
              have e3 : (w3.setCell ⟨w1.heap.size, 0, none⟩ (.slice (some ⟨g0, 0, none⟩) l0.length c3)).cell? ⟨w.heap.size + 1, 0, none⟩ = some (.int .i64 0) := cell_of_row _ _ 0 _ _ _ b2
              have e4 : (w3.setCell ⟨w1.heap.size, 0, none⟩ (.slice (some ⟨g0, 0, none⟩) l0.length c3)).cell? ⟨w.heap.size + 1, 1, none⟩ = some (.slice none 0 0) := cell_of_row _ _ 1 _ _ _ b2
              have e5 : (w3.setCell ⟨w1.heap.size, 0, none⟩ (.slice (some ⟨g0, 0, none⟩) l0.length c3)).frozen? ⟨w.heap.size + 1, 0, none⟩ = false := frozen_of_row _ _ 0 _ _ b2
              have e6 : (w3.setCell ⟨w1.heap.size, 0, none⟩ (.slice (some ⟨g0, 0, none⟩) l0.length c3)).frozen? ⟨w.heap.size + 1, 1, none⟩ = false := frozen_of_row _ _ 1 _ _ b2
              obtain ⟨he0, hcA, hcn, hcm, hrow2⟩ := hrow.clip
              clear he0
              have hclip := clip_any (some ⟨g0, 0, none⟩) (l0.length) c3 hcA hcn hcm
              go_region_held3 (fun w' => w'.cell? ⟨w.heap.size, 0, none⟩ = some (.int .i64 f) ∧ w'.cell? ⟨w1.heap.size, 0, none⟩ = some (.slice (some ⟨g0, 0, none⟩) (l0.length) c3))
                (first | exact ⟨e1, e2⟩ | exact ⟨(World.cell?_setCell_other _ _ _ _ (by intro e; injection e; omega)).trans ((World.cell?_setCell_other _ _ _ _ (by intro e; injection e; omega)).trans e1), (World.cell?_setCell_other _ _ _ _ (by intro e; injection e; omega)).trans ((World.cell?_setCell_other _ _ _ _ (by intro e; injection e; omega)).trans e2)⟩ | go_keep)
                (first | (go_at_call 95; refine (hclip _).mono ?_; rintro e w5 ⟨rfl, rfl⟩))
              go_wp2_with fail
              exact normal_end w _ (w3.setCell ⟨w1.heap.size, 0, none⟩ (.slice (some ⟨g0, 0, none⟩) l0.length c3)) hbW b2 HN.out HL.out hrow2 rfl rfl rfl
            · have HL : Hid (normL l = l0 ++ [x]) := by unfold Hid normL; rw [HNS.out]; unfold trimL; rw [hgl]; simp [hat]
              have hkb : (x.kind == 1) = true := by simp [hk1]
              have hab : ((x.attrs.length : Int) == 0) = false := by
                have : x.attrs.length ≠ 0 := fun e => hat (List.eq_nil_of_length_eq_zero e)
                simp; exact hat
              have HK := Lib.hid hk1
              have HA := Lib.hid hat
              clear hk1 hat
              have hrow := ho3.row
              have hbW := inv3.below
              have e2 := g1
              go_wp2_with fail
              have e1 : w3.cell? ⟨w.heap.size, 0, none⟩ = some (.int .i64 f) := cell_of_row _ _ 0 _ _ _ b1
              have e3 : w3.cell? ⟨w.heap.size + 1, 0, none⟩ = some (.int .i64 0) := cell_of_row _ _ 0 _ _ _ b2
              have e4 : w3.cell? ⟨w.heap.size + 1, 1, none⟩ = some (.slice none 0 0) := cell_of_row _ _ 1 _ _ _ b2
              have e5 : w3.frozen? ⟨w.heap.size + 1, 0, none⟩ = false := frozen_of_row _ _ 0 _ _ b2
              have e6 : w3.frozen? ⟨w.heap.size + 1, 1, none⟩ = false := frozen_of_row _ _ 1 _ _ b2
              obtain ⟨he0, hcA, hcn, hcm, hrow2⟩ := hrow.clip
              clear he0
              have hclip := clip_any (some ⟨g0, 0, none⟩) (l0.length + 1) c3 hcA hcn hcm
              go_region_held3 (fun w' => w'.cell? ⟨w.heap.size, 0, none⟩ = some (.int .i64 f) ∧ w'.cell? ⟨w1.heap.size, 0, none⟩ = some (.slice (some ⟨g0, 0, none⟩) (l0.length + 1) c3))
                (first | exact ⟨e1, e2⟩ | exact ⟨(World.cell?_setCell_other _ _ _ _ (by intro e; injection e; omega)).trans ((World.cell?_setCell_other _ _ _ _ (by intro e; injection e; omega)).trans e1), (World.cell?_setCell_other _ _ _ _ (by intro e; injection e; omega)).trans ((World.cell?_setCell_other _ _ _ _ (by intro e; injection e; omega)).trans e2)⟩ | go_keep)
                (first | (go_at_call 95; refine (hclip _).mono ?_; rintro e w5 ⟨rfl, rfl⟩))
              go_wp2_with fail
              exact normal_end w _ w3 hbW b2 HN.out HL.out hrow2 rfl rfl rfl
          · have HL : Hid (normL l = l0 ++ [x]) := by unfold Hid normL; rw [HNS.out]; unfold trimL; rw [hgl]; simp [hk1]
            have hkb : (x.kind == 1) = false := by simp [hk1]
            have HK := Lib.hid hk1
            clear hk1
            have hrow := ho3.row
            have hbW := inv3.below
            have e2 := g1
            go_wp2_with fail
            have e1 : w3.cell? ⟨w.heap.size, 0, none⟩ = some (.int .i64 f) := cell_of_row _ _ 0 _ _ _ b1
            have e3 : w3.cell? ⟨w.heap.size + 1, 0, none⟩ = some (.int .i64 0) := cell_of_row _ _ 0 _ _ _ b2
            have e4 : w3.cell? ⟨w.heap.size + 1, 1, none⟩ = some (.slice none 0 0) := cell_of_row _ _ 1 _ _ _ b2
            have e5 : w3.frozen? ⟨w.heap.size + 1, 0, none⟩ = false := frozen_of_row _ _ 0 _ _ b2
            have e6 : w3.frozen? ⟨w.heap.size + 1, 1, none⟩ = false := frozen_of_row _ _ 1 _ _ b2
            obtain ⟨he0, hcA, hcn, hcm, hrow2⟩ := hrow.clip
            clear he0
            have hclip := clip_any (some ⟨g0, 0, none⟩) (l0.length + 1) c3 hcA hcn hcm
            go_region_held3 (fun w' => w'.cell? ⟨w.heap.size, 0, none⟩ = some (.int .i64 f) ∧ w'.cell? ⟨w1.heap.size, 0, none⟩ = some (.slice (some ⟨g0, 0, none⟩) (l0.length + 1) c3))
              (first | exact ⟨e1, e2⟩ | exact ⟨(World.cell?_setCell_other _ _ _ _ (by intro e; injection e; omega)).trans ((World.cell?_setCell_other _ _ _ _ (by intro e; injection e; omega)).trans e1), (World.cell?_setCell_other _ _ _ _ (by intro e; injection e; omega)).trans ((World.cell?_setCell_other _ _ _ _ (by intro e; injection e; omega)).trans e2)⟩ | go_keep)
              (first | (go_at_call 95; refine (hclip _).mono ?_; rintro e w5 ⟨rfl, rfl⟩))
            go_wp2_with fail
            exact normal_end w _ w3 hbW b2 HN.out HL.out hrow2 rfl rfl rfl
  · have HN : Hid (nmR ⟨f, l⟩ = (⟨0, []⟩, er)) := by unfold Hid nmR; rw [if_neg (by rw [HR.out]; exact he), HR.out]
    have hne : (er == 0) = false := by simp [he]
    go_enter Tryd.func36, Tryd.ntmps36
    go_wp2_with fail
    refine (cr _ (Rd.below ⟨A, c, rfl, hA, hr⟩ hb0) (hT.below hb0)).mono ?_
    rintro e w1 ⟨rfl, hb1⟩
    have k1 : w1.heap[w.heap.size]? = some (.cells #[.int .i64 f, .slice A l.length c] 24 (0, 0)) := (hb1.block _ (by simp; omega)).trans ((Below.heap_alloc _ _ _ (by simp)).trans (heap_alloc_new w _))
    have k2 : w1.heap[w.heap.size + 1]? = some (.cells #[.int .i64 0, .slice none 0 0] 24 (0, 0)) := (hb1.block _ (by simp)).trans (by simpa using heap_alloc_new (w.alloc (.cells #[.int .i64 f, .slice A l.length c] 24)) (.cells #[.int .i64 0, .slice none 0 0] 24))
    have hz1 : w.heap.size + 2 ≤ w1.heap.size := by have := hb1.size; simp at this; omega
    have hbw : Below w.heap.size w w1 := hb0.trans (hb1.mono hb0.size)
    have k3 : w1.cell? ⟨w.heap.size, 0, none⟩ = some (.int .i64 f) := cell_of_row w1 _ 0 _ _ _ k1
    have k4 : w1.cell? ⟨w.heap.size, 1, none⟩ = some (.slice A l.length c) := cell_of_row w1 _ 1 _ _ _ k1
    have k5 : w1.cell? ⟨w.heap.size + 1, 0, none⟩ = some (.int .i64 0) := cell_of_row w1 _ 0 _ _ _ k2
    have k6 : w1.cell? ⟨w.heap.size + 1, 1, none⟩ = some (.slice none 0 0) := cell_of_row w1 _ 1 _ _ _ k2
    have k7 : w1.frozen? ⟨w.heap.size + 1, 0, none⟩ = false := by simp [World.frozen?, k2]
    have k8 : w1.frozen? ⟨w.heap.size + 1, 1, none⟩ = false := by simp [World.frozen?, k2]
    have k4a : ∀ o, (w1.alloc o).cell? ⟨w.heap.size, 1, none⟩ = some (.slice A l.length c) := fun o => (World.cell?_of_block (Below.heap_alloc w1 o _ (by show w.heap.size < _; omega))).trans k4
    clear hb1
    go_wp2_with fail
    refine bodyPost_ret (v := .tuple #[.agg #[.int .i64 0, .slice none 0 0], .int .i64 er]) ?_ rfl ⟨.slice none 0 0, by rw [HN.out], ?_, ?_⟩
    · have r0 : ((w1.setCell ⟨w.heap.size + 1, 0, none⟩ (.int .i64 0)).setCell ⟨w.heap.size + 1, 1, none⟩ (.slice none 0 0)).cell? ⟨w.heap.size + 1, 0, none⟩ = some (.int .i64 0) := (World.cell?_setCell_other _ _ _ _ (by simp)).trans (World.cell?_setCell_same _ _ _ k5)
      have r1 : ((w1.setCell ⟨w.heap.size + 1, 0, none⟩ (.int .i64 0)).setCell ⟨w.heap.size + 1, 1, none⟩ (.slice none 0 0)).cell? ⟨w.heap.size + 1, 1, none⟩ = some (.slice none 0 0) := World.cell?_setCell_same _ _ _ ((World.cell?_setCell_other _ _ _ _ (by simp)).trans k6)
      simp [results, Tryd.results36, go_sem, r0, r1]
    · exact (hbw.setCell (p := ⟨w.heap.size + 1, 0, none⟩) (by simp) _).setCell (p := ⟨w.heap.size + 1, 1, none⟩) (by simp) _
    · rw [HN.out]; exact RowO.nil _ _
end Go.Proofs.YtaemajcpgmaapaaDoor
