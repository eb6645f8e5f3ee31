/- follow: the reader. | follow: the reader's methods. | A call of a Go function of one parameter, at a step of a region that draws its order and stores besides. | follow.writer.put. | follow: the writer's methods but put. | follow.Follow: what its loop holds; how a round's calls turn it. -/
import Derived.Test.YtaemajcpgmaapaaDoorPkE
import Derived.Test.YtaemajcpgmaapaaDoorPkG
import Derived.Lib.Hide
import Derived.Test.YtaemajcpgmaapaaDoorShelf
import Derived.WalkKit
import Derived.Deep.RegionLaw
namespace Go.Proofs.YtaemajcpgmaapaaDoor
open Go.RowKit

set_option maxHeartbeats 2000000 in
theorem read_any (f : Int) (vo : Value) (l : List Op) (S : Nat → Prop) (w : World) (h : Rd KO S w vo l) (hT : Tabs w) :
    Calls Tryd.prog 72 #[.agg #[.int .i64 f, vo]] w fun e w' => ∃ rb v', e = .returned (.pointer (some ⟨rb, 0, none⟩)) ∧ Below w.heap.size w w' ∧ w.heap.size ≤ rb ∧
      w'.heap[rb]? = some (.cells #[v'] 79 (0, 0)) ∧ RowO w.heap.size w' v' (nmR ⟨f, l⟩).1.ops := by
  have cn := normal_ch f vo l S
  obtain ⟨A, c, rfl, hA, hr⟩ := h
  have hb0 : Below w.heap.size w (w.alloc (.cells #[.int .i64 f, .slice A l.length c] 24)) := (Below.refl _ _).alloc (Nat.le_refl _) _
  have cn1 := cn _ (Rd.below ⟨A, c, rfl, hA, hr⟩ hb0) (hT.below hb0)
  obtain ⟨nf, nl, er, HR⟩ : ∃ nf nl er, Hid (nmR ⟨f, l⟩ = (⟨nf, nl⟩, er)) := ⟨_, _, _, rfl⟩
  rw [HR.out] at cn1 ⊢
  have cn2 := Lib.hid cn1
  clear cn cn1
  go_enter Tryd.func72, Tryd.ntmps72
  go_wp2_with fail
  with_reducible refine cn2.out.mono ?_
  rintro e w1 ⟨v1, rfl, hb1, ho1⟩
  have hbw : Below w.heap.size w w1 := hb0.trans (hb1.mono hb0.size)
  have hrd := ho1.rd
  obtain ⟨A1, c1, rfl, hA1, hr1⟩ := hrd
  go_wp2_with fail
  go_ret
  have hba := ((Below.refl w1.heap.size w1).alloc (Nat.le_refl _) (.cells #[.int .i64 nf, .slice A1 nl.length c1] 24))
  refine ⟨w1.heap.size + 1, .slice A1 nl.length c1, rfl, ?_, ?_, ?_, ?_⟩
  · exact (hbw.alloc hbw.size _).alloc (hbw.alloc hbw.size _).size _
  · have := hbw.size; omega
  · simpa using heap_alloc_new (w1.alloc (.cells #[.int .i64 nf, .slice A1 nl.length c1] 24)) (.cells #[.slice A1 nl.length c1] 79)
  · exact (ho1.mono (by simp)).below (hba.alloc (by simp) _)

theorem ocells_cons (p : Op × Value) (ps : List (Op × Value)) : ocells (p :: ps) = [.int .i64 p.1.kind, .int .i64 p.1.n, .string p.1.text, p.2] ++ ocells ps := by simp [ocells]
theorem ocells_cons_at (p : Op × Value) (ps : List (Op × Value)) (j : Nat) : (ocells (p :: ps))[j + 4]? = (ocells ps)[j]? := by
  rw [ocells_cons, List.getElem?_append_right (by simp)]
  simp
/-- The first operation of a reader's row. -/
theorem RowO.head {lo : Nat} {w : World} {v : Value} {x : Op} {l : List Op} (h : RowO lo w v (x :: l)) :
    ∃ g off c vx A' c', v = .slice (some ⟨g, off, none⟩) (l.length + 1) c ∧ lo ≤ g ∧ g < w.heap.size ∧ l.length + 1 ≤ c ∧ OwnA lo w vx x.attrs ∧ Fits x.text ∧
      w.cell? ⟨g, off, none⟩ = some (.int .i64 x.kind) ∧ w.cell? ⟨g, off + 1, none⟩ = some (.int .i64 x.n) ∧ w.cell? ⟨g, off + 2, none⟩ = some (.string x.text) ∧ w.cell? ⟨g, off + 3, none⟩ = some vx ∧
      (∀ j, w.frozen? ⟨g, j, none⟩ = false) ∧
      (∀ W, (Instr.slice 22 (.slice (some ⟨g, off, none⟩) (l.length + 1) c) (some (.int .i64 1)) none none).run Tryd.prog W = .ok (.slice A' l.length c') W) ∧ (Value.slice A' l.length c').ownBlock = some g ∧ RowO lo w (.slice A' l.length c') l := by
  obtain ⟨ps, hps, h1, h2, h3⟩ := h
  cases ps with
  | nil => simp at hps
  | cons p ps =>
    simp only [List.map_cons, List.cons.injEq] at hps
    obtain ⟨hpx, hps⟩ := hps
    rcases h1 with ⟨_, h0⟩ | ⟨g, off, c, cur, rfl, hn, hm, hg, hh, hx⟩
    · cases h0
    · simp only [List.length_cons] at *
      have hp := h2 p (by simp)
      rw [hpx] at hp
      have hcell : ∀ j u, (ocells (p :: ps))[j]? = some u → w.cell? ⟨g, off + j, none⟩ = some u := fun j u hu => by
        rw [cell_of_row w g _ cur _ (0, 0) hh]; exact hx j u hu
      have hc0 := hcell 0 _ (by rw [ocells_cons]; rfl)
      have hc1 := hcell 1 _ (by rw [ocells_cons]; rfl)
      have hc2 := hcell 2 _ (by rw [ocells_cons]; rfl)
      have hc3 := hcell 3 _ (by rw [ocells_cons]; rfl)
      rw [hpx] at hc0 hc1 hc2
      have htl : l.length * 56 ≤ 140737488355328 := by omega
      by_cases h1 : c = 1
      · have hl : l = [] := List.eq_nil_of_length_eq_zero (by omega)
        have hpl : ps = [] := by rw [hl] at hps; simpa using hps
        subst hl hpl
        refine ⟨g, off, c, p.2, some ⟨g, off, none⟩, c - 1, rfl, hg, (Array.getElem?_eq_some_iff.1 hh).1, hn, hp.1, hp.2, hc0, hc1, hc2, hc3, fun j => frozen_of_row w g j cur _ hh, fun W => by simp [go_sem, h1], rfl, ?_⟩
        exact ⟨[], rfl, .inr ⟨g, off, c - 1, cur, rfl, by simp, by omega, hg, hh, by simp [ocells]⟩, by simp, by simp⟩
      · refine ⟨g, off, c, p.2, some ⟨g, off + 4, none⟩, c - 1, rfl, hg, (Array.getElem?_eq_some_iff.1 hh).1, hn, hp.1, hp.2, hc0, hc1, hc2, hc3, fun j => frozen_of_row w g j cur _ hh, fun W => by simp [go_sem, h1]; intro h; omega, rfl, ?_⟩
        refine ⟨ps, hps, .inr ⟨g, off + 4, c - 1, cur, rfl, by omega, by omega, hg, hh, fun j u hu => ?_⟩, fun q hq => h2 q (by simp [hq]), htl⟩
        have := hx (j + 4) u (by rw [ocells_cons_at]; exact hu)
        rw [show off + 4 + j = off + (j + 4) by omega]
        exact this
/-- .. of which so many runes are left. -/
theorem RowO.setN {lo : Nat} {w : World} {g off c : Nat} {x : Op} {l : List Op} (h : RowO lo w (.slice (some ⟨g, off, none⟩) (l.length + 1) c) (x :: l)) (n : Int) :
    RowO lo (w.setCell ⟨g, off + 1, none⟩ (.int .i64 n)) (.slice (some ⟨g, off, none⟩) (l.length + 1) c) (⟨x.kind, n, x.text, x.attrs⟩ :: l) := by
  have hlt := h.lt g rfl
  obtain ⟨ps, hps, h1, h2, h3⟩ := h
  cases ps with
  | nil => simp at hps
  | cons p ps =>
    simp only [List.map_cons, List.cons.injEq] at hps
    obtain ⟨hpx, hps⟩ := hps
    rcases h1 with ⟨_, h0⟩ | ⟨g', off', c', cur, h0, hn, hm, hg, hh, hx⟩
    · cases h0
    · simp only [List.length_cons, Value.slice.injEq, Option.some.injEq, Addr.mk.injEq, and_true, true_and] at *
      obtain ⟨⟨rfl, rfl⟩, rfl⟩ := h0
      have hc : Chg (fun k => k = g) w (w.setCell ⟨g, off + 1, none⟩ (.int .i64 n)) := (Chg.refl _ _).setCell _ fun _ => rfl
      have hat : ∀ va la, OwnA lo w va la → OwnA lo (w.setCell ⟨g, off + 1, none⟩ (.int .i64 n)) va la := fun va la ho => ho.chg hc fun k hk e => by
        rcases ho.1.2 with ⟨e1, _⟩ | ⟨g', cap, cur', e1, _, hh', _⟩
        · rw [e1] at hk; simp [Value.ownBlock] at hk
        · rw [e1] at hk; simp [Value.ownBlock] at hk; subst hk; subst e
          rw [hh] at hh'
          injection hh' with hh'
          injection hh' with _ ht
          exact absurd ht (by decide)
      refine ⟨(⟨x.kind, n, x.text, x.attrs⟩, p.2) :: ps, by simp [hps], .inr ⟨g, off, c, cur.setIfInBounds (off + 1) (.int .i64 n), by simp, by simpa using hn, hm, hg, heap_setCell_same w g (off + 1) cur _ _ hh, fun j u hu => ?_⟩, fun q hq => ?_, by simpa using h3⟩
      · rw [Array.getElem?_setIfInBounds]
        have hxx : ∀ i, i ≠ 1 → (ocells ((⟨x.kind, n, x.text, x.attrs⟩, p.2) :: ps))[i]? = (ocells (p :: ps))[i]? := fun i hi => by
          rw [ocells_cons, ocells_cons]
          match i with
          | 0 => simp [hpx]
          | 1 => exact absurd rfl hi
          | 2 => simp [hpx]
          | 3 => simp
          | i + 4 => rw [List.getElem?_append_right (by simp), List.getElem?_append_right (by simp)]; simp
        by_cases hj : j = 1
        · subst hj
          have hu1 : u = .int .i64 n := by rw [ocells_cons] at hu; simpa using hu.symm
          have hb : off + 1 < cur.size := (Array.getElem?_eq_some_iff.1 (hx 1 _ (by rw [ocells_cons]; rfl))).1
          simp [hb, hu1]
        · rw [if_neg (by omega)]
          exact hx j u (by rw [← hxx j hj]; exact hu)
      · rcases List.mem_cons.1 hq with rfl | hq
        · have := h2 p (by simp)
          rw [hpx] at this
          exact ⟨hat _ _ this.1, this.2⟩
        · have := h2 q (by simp [hq])
          exact ⟨hat _ _ this.1, this.2⟩
end Go.Proofs.YtaemajcpgmaapaaDoor

namespace Go.Proofs.YtaemajcpgmaapaaDoor
open Go.RowKit

/-- A row stands where a block of another kind alone is written. -/
theorem RowO.off {lo : Nat} {w w' : World} {v : Value} {l : List Op} {rb T : Nat} {cs : Array Value} {fr : Nat × Nat} (h : RowO lo w v l) (hrb : w.heap[rb]? = some (.cells cs T fr)) (hT1 : T ≠ 30) (hT2 : T ≠ 102) (hc : Chg (fun k => k = rb) w w') : RowO lo w' v l := by
  refine h.chg hc (fun k hk e => ?_) (fun k _ hk e => ?_)
  · obtain ⟨_, _, cur, hk⟩ := h.lt k hk
    subst e
    rw [hrb] at hk
    injection hk with hk
    injection hk with _ ht
    exact hT1 ht
  · obtain ⟨cs', fr', hk⟩ := hk
    subst e
    rw [hrb] at hk
    injection hk with hk
    injection hk with _ ht
    exact hT2 ht
theorem OwnA.off {lo : Nat} {w w' : World} {v : Value} {l : List Attr} {rb T : Nat} {cs : Array Value} {fr : Nat × Nat} (h : OwnA lo w v l) (hrb : w.heap[rb]? = some (.cells cs T fr)) (hT2 : T ≠ 102) (hc : Chg (fun k => k = rb) w w') : OwnA lo w' v l :=
  h.chg hc fun k hk e => own_ne_block h.1 hrb (Ne.symm hT2) k hk e
theorem OwnO.off {lo : Nat} {w w' : World} {v : Value} {l : List Op} {rb T : Nat} {cs : Array Value} {fr : Nat × Nat} (h : OwnO lo w v l) (hrb : w.heap[rb]? = some (.cells cs T fr)) (hT1 : T ≠ 30) (hT2 : T ≠ 102) (hc : Chg (fun k => k = rb) w w') : OwnO lo w' v l :=
  h.chg hc (fun k hk e => own_ne_blockO h hrb hT1 k hk e) (fun k _ hk e => by
    obtain ⟨cs', fr', hk⟩ := hk
    subst e
    rw [hrb] at hk
    injection hk with hk
    injection hk with _ ht
    exact hT2 ht)

set_option maxHeartbeats 2000000 in
theorem inserts_any (rb lo : Nat) (v : Value) (l : List Op) (w : World) (hrb : w.heap[rb]? = some (.cells #[v] 79 (0, 0))) (h : RowO lo w v l) :
    Calls Tryd.prog 73 #[.pointer (some ⟨rb, 0, none⟩)] w fun e w' => e = .returned (.bool (insB l)) ∧ w' = w := by
  have c0 : w.cell? ⟨rb, 0, none⟩ = some v := cell_of_row _ _ 0 _ _ _ hrb
  cases l with
  | nil =>
    have hc := h.rd
    obtain ⟨A, c, rfl, _, _⟩ := hc
    simp only [List.length_nil] at *
    have HI : Hid (insB [] = false) := rfl
    go_enter Tryd.func73, Tryd.ntmps73
    go_wp2_with fail
    go_ret
    exact ⟨by rw [HI.out]; rfl, rfl⟩
  | cons x l =>
    obtain ⟨g, off, c, vx, A', c', rfl, hg, hgw, hn, hox, hfx, d0, d1, d2, d3, hfz, _, _, _⟩ := h.head
    have HI : Hid (insB (x :: l) = (x.kind == 2)) := rfl
    cases hk : x.kind == 2 with
    | true =>
      rw [hk] at HI
      go_enter Tryd.func73, Tryd.ntmps73
      go_wp2_with fail
      go_ret
      exact ⟨by rw [HI.out]; rfl, rfl⟩
    | false =>
      rw [hk] at HI
      go_enter Tryd.func73, Tryd.ntmps73
      go_wp2_with fail
      go_ret
      exact ⟨by rw [HI.out]; rfl, rfl⟩

set_option maxHeartbeats 2000000 in
theorem left_any (rb lo : Nat) (v : Value) (l : List Op) (w : World) (hrb : w.heap[rb]? = some (.cells #[v] 79 (0, 0))) (h : RowO lo w v l) :
    Calls Tryd.prog 78 #[.pointer (some ⟨rb, 0, none⟩)] w fun e w' => e = .returned (.int .i64 (leftN l)) ∧ w' = w := by
  have c0 : w.cell? ⟨rb, 0, none⟩ = some v := cell_of_row _ _ 0 _ _ _ hrb
  cases l with
  | nil =>
    have hc := h.rd
    obtain ⟨A, c, rfl, _, _⟩ := hc
    simp only [List.length_nil] at *
    have HI : Hid (leftN [] = 20001) := rfl
    go_enter Tryd.func78, Tryd.ntmps78
    go_wp2_with fail
    go_ret
    exact ⟨by rw [HI.out]; rfl, rfl⟩
  | cons x l =>
    obtain ⟨g, off, c, vx, A', c', rfl, hg, hgw, hn, hox, hfx, d0, d1, d2, d3, hfz, _, _, _⟩ := h.head
    have HI : Hid (leftN (x :: l) = x.n) := rfl
    have hq1 : ((l.length : Int) + 1 == 0) = false := by rw [beq_eq_false_iff_ne]; omega
    go_enter Tryd.func78, Tryd.ntmps78
    go_wp2_with fail
    go_ret
    exact ⟨by rw [HI.out]; rfl, rfl⟩

set_option maxHeartbeats 2000000 in
theorem text_any (rb lo : Nat) (v : Value) (x : Op) (l : List Op) (w : World) (hrb : w.heap[rb]? = some (.cells #[v] 79 (0, 0))) (h : RowO lo w v (x :: l)) :
    Calls Tryd.prog 75 #[.pointer (some ⟨rb, 0, none⟩)] w fun e w' => ∃ vx v', e = .returned (.agg #[.int .i64 x.kind, .int .i64 x.n, .string x.text, vx]) ∧ w'.heap[rb]? = some (.cells #[v'] 79 (0, 0)) ∧
      RowO lo w' v' l ∧ OwnA lo w' vx x.attrs ∧ Chg (fun k => k = rb) w w' ∧ v'.ownBlock = v.ownBlock := by
  have c0 : w.cell? ⟨rb, 0, none⟩ = some v := cell_of_row _ _ 0 _ _ _ hrb
  have hfr : w.frozen? ⟨rb, 0, none⟩ = false := frozen_of_row _ _ 0 _ _ hrb
  have hrbw : rb < w.heap.size := (Array.getElem?_eq_some_iff.1 hrb).1
  obtain ⟨g, off, c, vx, A', c', rfl, hg, hgw, hn, hox, hfx, d0, d1, d2, d3, hfz, hsl, hob, hrow⟩ := h.head
  obtain ⟨A4, c4, rfl, hA4, hr4⟩ := hox.rd
  have hne : g ≠ rb := by
    intro e
    obtain ⟨_, _, cur, hk⟩ := h.lt g rfl
    subst e
    rw [hrb] at hk
    injection hk with hk
    injection hk with _ ht
    exact absurd ht (by decide)
  have ne1 : rb ≠ w.heap.size := by omega
  have ne2 : g ≠ w.heap.size := by omega
  go_enter Tryd.func75, Tryd.ntmps75
  go_wp2_with fail
  have hc1 : Chg (fun k => k = rb) w (w.setCell ⟨rb, 0, none⟩ (.slice A' l.length c')) := (Chg.refl _ _).setCell _ fun _ => rfl
  have hc2 := (hc1.alloc (.cells #[.int .i64 x.kind, .int .i64 x.n, .string x.text, .slice A4 x.attrs.length c4] 30)).alloc (.cells #[.int .i64 x.kind, .int .i64 x.n, .string x.text, .slice A4 x.attrs.length c4] 30)
  refine bodyPost_ret (v := .agg #[.int .i64 x.kind, .int .i64 x.n, .string x.text, .slice A4 x.attrs.length c4]) (by simp [results, Tryd.results75, go_sem]) rfl ⟨.slice A4 x.attrs.length c4, .slice A' l.length c', rfl, ?_, hrow.off hrb (by decide) (by decide) hc2, hox.off hrb (by decide) hc2, hc2, hob⟩
  refine (Below.heap_alloc _ _ _ (by simp; omega)).trans ((Below.heap_alloc _ _ _ (by simpa using hrbw)).trans (heap_setCell_same w rb 0 _ _ _ hrb))

/-- Where the first operation's number is written: the row behind it, and the attributes, stand. -/
theorem RowO.setTail {lo : Nat} {w : World} {g off c : Nat} {x : Op} {l : List Op} (h : RowO lo w (.slice (some ⟨g, off, none⟩) (l.length + 1) c) (x :: l)) (n : Int) {A' : Option Addr} {c' : Nat}
    (hsl : ∀ W, (Instr.slice 22 (.slice (some ⟨g, off, none⟩) (l.length + 1) c) (some (.int .i64 1)) none none).run Tryd.prog W = .ok (.slice A' l.length c') W) :
    RowO lo (w.setCell ⟨g, off + 1, none⟩ (.int .i64 n)) (.slice A' l.length c') l := by
  obtain ⟨g2, off2, c2, vx2, A2, c2', e2, _, _, _, _, _, _, _, _, _, _, hsl2, _, hrow2⟩ := (h.setN n).head
  simp only [Value.slice.injEq, Option.some.injEq, Addr.mk.injEq, and_true, true_and] at e2
  obtain ⟨⟨rfl, rfl⟩, rfl⟩ := e2
  have e3 := (hsl w).symm.trans (hsl2 w)
  injection e3 with e3
  injection e3 with e4 _ e5
  subst e4 e5
  exact hrow2
theorem OwnA.setOp {lo : Nat} {w : World} {g j : Nat} {u : Value} {cur : Array Value} {va : Value} {la : List Attr} (hh : w.heap[g]? = some (.cells cur 30 (0, 0))) (ho : OwnA lo w va la) : OwnA lo (w.setCell ⟨g, j, none⟩ u) va la :=
  ho.off hh (by decide) ((Chg.refl _ _).setCell _ fun _ => rfl)

set_option maxRecDepth 100000 in
set_option maxHeartbeats 4000000 in
theorem take_any (rb lo : Nat) (v : Value) (l : List Op) (n : Int) (w : World) (hrb : w.heap[rb]? = some (.cells #[v] 79 (0, 0))) (h : RowO lo w v l) :
    Calls Tryd.prog 79 #[.pointer (some ⟨rb, 0, none⟩), .int .i64 n] w fun e w' => ∃ vx v', e = .returned (.agg #[.int .i64 (takeO n l).1.kind, .int .i64 (takeO n l).1.n, .string (takeO n l).1.text, vx]) ∧
      w'.heap[rb]? = some (.cells #[v'] 79 (0, 0)) ∧ RowO lo w' v' (takeO n l).2 ∧ OwnA lo w' vx (takeO n l).1.attrs ∧ Chg (fun k => k = rb ∨ v.ownBlock = some k) w w' ∧ v'.ownBlock = v.ownBlock := by
  have c0 : w.cell? ⟨rb, 0, none⟩ = some v := cell_of_row _ _ 0 _ _ _ hrb
  have hfr : w.frozen? ⟨rb, 0, none⟩ = false := frozen_of_row _ _ 0 _ _ hrb
  have hrbw : rb < w.heap.size := (Array.getElem?_eq_some_iff.1 hrb).1
  cases l with
  | nil =>
    have hc := h.rd
    obtain ⟨A, c, rfl, _, _⟩ := hc
    simp only [List.length_nil] at *
    have HT : Hid (takeO n [] = (⟨1, n, ⟨#[]⟩, []⟩, [])) := rfl
    go_enter Tryd.func79, Tryd.ntmps79
    go_wp2_with fail
    rw [HT.out]
    have hb : Below w.heap.size w (w.alloc (.cells #[.int .i64 1, .int .i64 n, .string ⟨#[]⟩, .slice none 0 0] 30)) := (Below.refl _ _).alloc (Nat.le_refl _) _
    exact bodyPost_ret (v := .agg #[.int .i64 1, .int .i64 n, .string ⟨#[]⟩, .slice none 0 0]) (by simp [results, Tryd.results79, go_sem]) rfl ⟨_, _, rfl, (hb.block rb hrbw).trans hrb, h.below hb, OwnA.nil _ _, Chg.of_below hb _, rfl⟩
  | cons x l =>
    obtain ⟨g, off, c, vx, A', c', rfl, hg, hgw, hn, hox, hfx, d0, d1, d2, d3, hfz, hsl, hob, hrow⟩ := h.head
    obtain ⟨A4, c4, rfl, hA4, hr4⟩ := hox.rd
    obtain ⟨_, _, cur, hgc⟩ := h.lt g rfl
    have hne : g ≠ rb := by
      intro e
      subst e
      rw [hrb] at hgc
      injection hgc with hgc
      injection hgc with _ ht
      exact absurd ht (by decide)
    have ne1 : rb ≠ w.heap.size := by omega
    have ne2 : g ≠ w.heap.size := by omega
    have ne3 : rb ≠ w.heap.size + 1 := by omega
    have ne4 : g ≠ w.heap.size + 1 := by omega
    have hq1 : ((l.length : Int) + 1 == 0) = false := by rw [beq_eq_false_iff_ne]; omega
    have hW := h.setN (wrap64 (x.n - n))
    have hT := h.setTail (wrap64 (x.n - n)) hsl
    have hO := hox.setOp (j := off + 1) (u := .int .i64 (wrap64 (x.n - n))) hgc
    have hc1 : Chg (fun k => k = rb ∨ (Value.slice (some ⟨g, off, none⟩) (l.length + 1) c).ownBlock = some k) w (w.setCell ⟨g, off + 1, none⟩ (.int .i64 (wrap64 (x.n - n)))) := (Chg.refl _ _).setCell _ fun _ => .inr rfl
    have hr1 : (w.setCell ⟨g, off + 1, none⟩ (.int .i64 (wrap64 (x.n - n)))).heap[rb]? = some (.cells #[.slice (some ⟨g, off, none⟩) (l.length + 1) c] 79 (0, 0)) := (Below.heap_setCell _ _ _ rb (Ne.symm hne)).trans hrb
    by_cases hz : wrap64 (x.n - n) = 0
    · have hzb : (wrap64 (x.n - n) == 0) = true := by simp [hz]
      have HT : Hid (takeO n (x :: l) = (⟨x.kind, n, x.text, x.attrs⟩, l)) := by unfold Hid takeO; simp only; rw [if_pos hz]
      have HZ := Lib.hid hz
      have H1 := Lib.hid hW
      have H2 := Lib.hid hT
      have H3 := Lib.hid hO
      have H4 := Lib.hid hc1
      have H5 := Lib.hid hr1
      clear hz hW hT hO hc1 hr1
      go_enter Tryd.func79, Tryd.ntmps79
      go_wp2_with fail
      rw [HT.out]
      have q1 : Chg (fun k => k = rb) (w.setCell ⟨g, off + 1, none⟩ (.int .i64 (wrap64 (x.n - n)))) ((w.setCell ⟨g, off + 1, none⟩ (.int .i64 (wrap64 (x.n - n)))).setCell ⟨rb, 0, none⟩ (.slice A' l.length c')) := (Chg.refl _ _).setCell _ fun _ => rfl
      have q2 := (q1.alloc (.cells #[.int .i64 x.kind, .int .i64 n, .string x.text, .slice A4 x.attrs.length c4] 30)).alloc (.cells #[.int .i64 x.kind, .int .i64 n, .string x.text, .slice A4 x.attrs.length c4] 30)
      refine bodyPost_ret (v := .agg #[.int .i64 x.kind, .int .i64 n, .string x.text, .slice A4 x.attrs.length c4]) (by simp [results, Tryd.results79, go_sem]) rfl ⟨_, _, rfl, ?_, H2.out.off H5.out (by decide) (by decide) q2, H3.out.off H5.out (by decide) q2, H4.out.trans q2 fun k _ e => .inl e, hob⟩
      refine (Below.heap_alloc _ _ _ (by simp [World.setCell]; omega)).trans ((Below.heap_alloc _ _ _ (by simp [World.setCell]; omega)).trans (heap_setCell_same _ rb 0 _ _ _ H5.out))
    · have hzb : (wrap64 (x.n - n) == 0) = false := by simp [hz]
      have HT : Hid (takeO n (x :: l) = (⟨x.kind, n, x.text, x.attrs⟩, ⟨x.kind, wrap64 (x.n - n), x.text, x.attrs⟩ :: l)) := by unfold Hid takeO; simp only; rw [if_neg hz]
      have HZ := Lib.hid hz
      have H1 := Lib.hid hW
      have H2 := Lib.hid hT
      have H3 := Lib.hid hO
      have H4 := Lib.hid hc1
      have H5 := Lib.hid hr1
      clear hz hW hT hO hc1 hr1
      go_enter Tryd.func79, Tryd.ntmps79
      go_wp2_with fail
      rw [HT.out]
      have q2 := ((Below.refl (w.setCell ⟨g, off + 1, none⟩ (.int .i64 (wrap64 (x.n - n)))).heap.size (w.setCell ⟨g, off + 1, none⟩ (.int .i64 (wrap64 (x.n - n))))).alloc (Nat.le_refl _) (.cells #[.int .i64 x.kind, .int .i64 n, .string x.text, .slice A4 x.attrs.length c4] 30)).alloc (by simp) (.cells #[.int .i64 x.kind, .int .i64 n, .string x.text, .slice A4 x.attrs.length c4] 30)
      exact bodyPost_ret (v := .agg #[.int .i64 x.kind, .int .i64 n, .string x.text, .slice A4 x.attrs.length c4]) (by simp [results, Tryd.results79, go_sem]) rfl ⟨_, _, rfl, (q2.block rb (by simp [World.setCell]; omega)).trans H5.out, H1.out.below q2, H3.out.below q2, H4.out.trans (Chg.of_below q2 (fun k => k = rb)) fun k _ e => .inl e, rfl⟩
end Go.Proofs.YtaemajcpgmaapaaDoor

namespace Go.Proofs.YtaemajcpgmaapaaDoor
open Go.RowKit

theorem callFunc_enter {P : Program} {f : FuncId} {fn : Func} {c : Code} (hf : P.funcs[f]? = some fn) (hname : (fn.name == "runtime.NumGoroutine") = false) (hb : fn.body = some c) (args : Array Value) (w : World) :
    (callFunc f args).run P w = .ok (.enter f args) w := by
  have hn : ¬ fn.name = "runtime.NumGoroutine" := by simpa using hname
  simp [callFunc, hf, hn, hb, go_sem]
theorem step_call_law {P : Program} {ops : Array Oper} {o : Oper} {a : Act} {w : World} {K : Act → World → Prop} {Q : Exit → Act → World → Prop} {E : Prop}
    (hgd : o.guard = none) (f : Nat) (x : Operand) (ty : TypeId) (ho : o.op = .call { callee := .value (.func f), args := #[x], argTypes := #[ty] }) (s : Value) (hx : a.eval x = s)
    (hcf : ∀ w, (callFunc f #[s]).run P w = .ok (.enter f #[s]) w)
    {Post : Ending → World → Prop} (hc : Calls P f #[s] w Post) (hr : ∀ e w', Post e w' → ∃ v, e = .returned v) (h : ∀ v w', Post (.returned v) w' → K (a.put o.dst v) w') :
    if Region.wanted o (yielded ops a.tmps) = true then Oper.wp P o a w K Q else E := by
  have hw : Region.wanted o (yielded ops a.tmps) = true := by simp [Region.wanted, hgd]
  rw [if_pos hw]
  unfold Oper.wp
  have he : execOp a.eval o = callFunc f #[s] := by
    obtain ⟨dst, op, type, pos, after, guard⟩ := o
    subst ho
    show callFunc f (#[] ++ #[x].map a.eval ++ #[]) = _
    simp [hx]
  rw [he, hcf, Oper.upon_enter]
  refine hc.mono fun e w' he => ?_
  obtain ⟨v, rfl⟩ := hr e w' he
  exact h v w' he
end Go.Proofs.YtaemajcpgmaapaaDoor

namespace Go.Proofs.YtaemajcpgmaapaaDoor
open Go.RowKit

set_option maxRecDepth 100000 in
set_option maxHeartbeats 4000000 in
theorem fPut (rb : Nat) (cs : Array Value) (T : Nat) (v : Value) (l : List Op) (lo : Nat) (kind n : Int) (text : ByteArray) (va : Value) (la : List Attr) (S : Nat → Prop) (w : World)
    (hrb : w.heap[rb]? = some (.cells cs T (0, 0))) (hcs : cs[0]? = some v) (hlo : lo ≤ rb) (hT1 : T ≠ 30) (hT2 : T ≠ 102) (hown : OwnO lo w v l) (hva : Rd KA S w va la) (hft : Fits text)
    (hsz : ∀ x ∈ l, x.text.size + text.size ≤ 140737488355328) (hlen : (l.length + 1) * 56 ≤ 140737488355328) :
    Calls Tryd.prog 136 #[.pointer (some ⟨rb, 0, none⟩), .agg #[.int .i64 kind, .int .i64 n, .string text, va]] w fun e w' => e = .returned (.tuple #[]) ∧
      ∃ v', w'.heap[rb]? = some (.cells (cs.setIfInBounds 0 v') T (0, 0)) ∧ OwnO lo w' v' (putL l ⟨kind, n, text, la⟩) ∧ Chg (fun k => k = rb ∨ v.ownBlock = some k) w w' ∧ (v'.ownBlock = v.ownBlock ∨ ∃ k, v'.ownBlock = some k ∧ w.heap.size ≤ k) := by
  have hrbw : rb < w.heap.size := (Array.getElem?_eq_some_iff.1 hrb).1
  have hc0 : w.cell? ⟨rb, 0, none⟩ = some v := by rw [cell_of_row w rb 0 cs T (0, 0) hrb]; exact hcs
  have hfz : w.frozen? ⟨rb, 0, none⟩ = false := by simp [World.frozen?, hrb]
  obtain ⟨A, c, rfl, hAc, hr⟩ := hown.rd
  rcases List.eq_nil_or_concat l with rfl | ⟨l0, x, rfl⟩
  · obtain ⟨A2, c2, rfl, hA2, hr2⟩ := hva
    simp only [List.length_nil] at *
    go_enter Tryd.func136, Tryd.ntmps136
    go_wp2_with fail
    go_quiet (fail)
    have hb0 : Below w.heap.size w ((w.alloc (.cells #[.int .i64 kind, .int .i64 n, .string text, .slice A2 la.length c2] 30)).drewN nq) := below_drewN ((Below.refl _ _).alloc (Nat.le_refl _) _) _
    have hrd0 := Lib.hid (Rd.below ⟨A2, c2, rfl, hA2, hr2⟩ hb0)
    go_wp2_with (at_builtin; refine wpList_append_attrs0 rfl _ _ rfl la S rfl rfl hrd0.out ?_; intro v3 w1 hb1 ho1; have hq1 := (bcell hb1).1; have hq2 := (bcell hb1).2; have hb1' : Below w.heap.size w w1 := hb0.trans (hb1.mono hb0.size); (have hz1 : w.heap.size < w1.heap.size := by have := hb1.size; simp at this; omega); obtain ⟨A3, c3, rfl, hA3, hr3⟩ := ho1.rd; have hc1 := (hb1'.cell (p := ⟨rb, 0, none⟩) hrbw).trans hc0; have hfz1 := (hb1'.frozen (p := ⟨rb, 0, none⟩) hrbw).trans hfz)
    have hcg : Chg (fun k => k = w.heap.size) w (w1.setCell ⟨w.heap.size, 3, none⟩ (.slice A3 la.length c3)) := (Chg.of_below hb1' _).setCell _ fun _ => rfl
    have ho2 : OwnO lo (w1.setCell ⟨w.heap.size, 3, none⟩ (.slice A3 la.length c3)) _ _ := hown.chg hcg (fun k hk e => by have := (hown.lt k hk).2; omega) (fun k _ hk e => by obtain ⟨_, _, hk⟩ := hk; have := (Array.getElem?_eq_some_iff.1 hk).1; omega)
    have hoa2 : OwnA lo (w1.setCell ⟨w.heap.size, 3, none⟩ (.slice A3 la.length c3)) (.slice A3 la.length c3) la := (ho1.mono (by simp; omega)).chg (X := fun k => k = w.heap.size) ((Chg.refl _ w1).setCell _ fun _ => rfl) (fun k hk e => by have := (ho1.1.lt k hk).1; simp at this; omega)
    have hk0 : (w1.setCell ⟨w.heap.size, 3, none⟩ (.slice A3 la.length c3)).cell? ⟨w.heap.size, 0, none⟩ = some (.int .i64 kind) := (World.cell?_setCell_other _ _ _ _ (by simp)).trans ((hq1 w.heap.size 0 (by simp)).trans (cell_of_row _ w.heap.size 0 _ _ _ (heap_alloc_new w _)))
    have hk1 : (w1.setCell ⟨w.heap.size, 3, none⟩ (.slice A3 la.length c3)).cell? ⟨w.heap.size, 1, none⟩ = some (.int .i64 n) := (World.cell?_setCell_other _ _ _ _ (by simp)).trans ((hq1 w.heap.size 1 (by simp)).trans (cell_of_row _ w.heap.size 1 _ _ _ (heap_alloc_new w _)))
    have hk2 : (w1.setCell ⟨w.heap.size, 3, none⟩ (.slice A3 la.length c3)).cell? ⟨w.heap.size, 2, none⟩ = some (.string text) := (World.cell?_setCell_other _ _ _ _ (by simp)).trans ((hq1 w.heap.size 2 (by simp)).trans (cell_of_row _ w.heap.size 2 _ _ _ (heap_alloc_new w _)))
    have hk3 : (w1.setCell ⟨w.heap.size, 3, none⟩ (.slice A3 la.length c3)).cell? ⟨w.heap.size, 3, none⟩ = some (.slice A3 la.length c3) := World.cell?_setCell_same w1 _ _ ((hq1 w.heap.size 3 (by simp)).trans (cell_of_row _ w.heap.size 3 _ _ _ (heap_alloc_new w _)))
    have hrb2 : (w1.setCell ⟨w.heap.size, 3, none⟩ (.slice A3 la.length c3)).heap[rb]? = some (.cells cs T (0, 0)) := (hcg.block rb hrbw (by omega)).trans hrb
    have hz2 := hcg.size
    have hz3 : w.heap.size < (w1.setCell ⟨w.heap.size, 3, none⟩ (.slice A3 la.length c3)).heap.size := by simp [World.setCell]; omega
    generalize w1.setCell ⟨w.heap.size, 3, none⟩ (.slice A3 la.length c3) = W2 at *
    have hr2 : W2.cell? ⟨rb, 0, none⟩ = some (.slice A 0 c) := by rw [cell_of_row W2 rb 0 cs T (0, 0) hrb2]; exact hcs
    have hf2 : W2.frozen? ⟨rb, 0, none⟩ = false := by simp [World.frozen?, hrb2]
    have q1 : Hid (OwnO lo W2.drew (.slice A 0 c) []) := OwnO.below ho2 (Below.refl _ _).drew
    have q2 : Hid (OwnA lo W2.drew (.slice A3 la.length c3) la) := OwnA.below hoa2 (Below.refl _ _).drew
    have q3 : lo ≤ W2.heap.size := by omega
    have q5 : Hid (putL [] ⟨kind, n, text, la⟩ = [⟨kind, n, text, la⟩]) := rfl
    have q4 : Hid (∀ k, (Value.slice A 0 c).ownBlock = some k → k ≠ rb) := own_ne_blockO ho2 hrb2 hT1
    have hr2a : ∀ o, (W2.alloc o).cell? ⟨rb, 0, none⟩ = some (.slice A 0 c) := fun o => (World.cell?_of_block (Below.heap_alloc W2 o rb (by omega))).trans hr2
    go_region_law ((
      refine step_append_op1 (by rfl) (.tmp 76) (.tmp 78) (by rfl) lo (.slice A 0 c) [] 0 rfl ⟨kind, n, text, la⟩ (.slice A3 la.length c3) W2.heap.size (by simp [Act.eval]) (by simp [Act.eval]) (by simp) q1.out q2.out hft (by rfl) (by decide) (by simpa using q3) ?_
      intro g cap w3 hown3 hgrow hat
      have hrb3 := (hgrow.block rb (by simp; omega) (fun e => q4.out rb e.symm rfl)).trans hrb2
      have hr3 : w3.cell? ⟨rb, 0, none⟩ = some (.slice A 0 c) := (hgrow.cell_far ⟨rb, 0, none⟩ (by simp; omega) (fun e => q4.out rb e.symm rfl)).trans hr2
      have hf3 : w3.frozen? ⟨rb, 0, none⟩ = false := (hgrow.frozen_far ⟨rb, 0, none⟩ (by simp; omega) (fun e => q4.out rb e.symm rfl)).trans hf2))
    all_goals
      go_wp2
      refine bodyPost_end (results_none rfl _ _ _) rfl ⟨rfl, ?_⟩
      exact put_end hrb hcs hT1 hT2 hcg hgrow hrb3 hown3 hat hz2 q5.out
  · rw [List.concat_eq_append] at *
    obtain ⟨A2, c2, rfl, hA2, hr2⟩ := hva
    have e1 : (l0 ++ [x]).length = l0.length + 1 := by simp
    have hx := hsz x (by simp)
    rw [e1] at hcs hown hc0 hlen hAc ⊢
    obtain ⟨g0, rfl⟩ : ∃ g0, A = some ⟨g0, 0, none⟩ := by
      obtain ⟨ps, hps, h1, _, _⟩ := hown
      rcases h1.2 with ⟨h', _⟩ | ⟨g', cap', cur, h', _⟩
      · simp at h'
      · simp at h'
        exact ⟨g', by rw [h'.1]⟩
    obtain ⟨vx, hox, hfx, hx0, hx1, hx2, hx3, hxf⟩ := hown.last
    have hxf0 := hxf
    obtain ⟨A4, c4, rfl, hA4, hr4⟩ := hox.rd
    have hg0w : g0 < w.heap.size := (hown.lt g0 rfl).2
    have hwr : IntKind.i64.wrap ((l0.length + 1 : Nat) - 1 : Int) = l0.length := by have := hlen; rw [show ((l0.length + 1 : Nat) - 1 : Int) = (l0.length : Int) by omega, IntKind.wrap_i64]; omega
    have hwr2 : IntKind.i64.wrap ((l0.length : Int) + 1 - 1) = l0.length := by have := hlen; rw [show ((l0.length : Int) + 1 - 1) = (l0.length : Int) by omega, IntKind.wrap_i64]; omega
    have hlt1 : (l0.length : Int) < (l0.length + 1 : Nat) := by omega
    have hlt2 : (l0.length : Int) < (l0.length : Int) + 1 := by omega
    have hlt3 : (0 : Int) ≤ (l0.length : Int) := by omega
    have hgt : decide ((0 : Int) < (l0.length + 1 : Nat)) = true := by simp
    have cq := same_q (.slice A4 x.attrs.length c4) (.slice A2 la.length c2) x.attrs la (fun k => lo ≤ k) S
    by_cases hkd : x.kind = kind
    · cases hat : attrsEq x.attrs la with
      | true =>
        rw [hat] at cq
        subst hkd
        have hke : (x.kind == x.kind) = true := by simp
        go_enter Tryd.func136, Tryd.ntmps136
        go_wp2_with fail
        go_quiet (first | (go_at_call 98; refine Calls.quiet_of (cq _ ?_ ?_); exact Rd.below ⟨A4, c4, rfl, hA4, hr4⟩ (below_drewN ((Below.refl _ _).alloc (Nat.le_refl _) _) _); exact Rd.below ⟨A2, c2, rfl, hA2, hr2⟩ (below_drewN ((Below.refl _ _).alloc (Nat.le_refl _) _) _)))
        have hb0 : Below w.heap.size w ((w.alloc (.cells #[.int .i64 x.kind, .int .i64 n, .string text, .slice A2 la.length c2] 30)).drewN nq) := below_drewN ((Below.refl _ _).alloc (Nat.le_refl _) _) _
        have p1 := (hb0.cell (p := ⟨rb, 0, none⟩) hrbw).trans hc0
        have p2 := (hb0.frozen (p := ⟨rb, 0, none⟩) hrbw).trans hfz
        have p3 := (hb0.cell (p := ⟨g0, l0.length * 4 + 1, none⟩) hg0w).trans hx1
        have p4 := (hb0.cell (p := ⟨g0, l0.length * 4 + 2, none⟩) hg0w).trans hx2
        have p5 := (hb0.frozen (p := ⟨g0, l0.length * 4 + 1, none⟩) hg0w).trans (hxf _)
        have p6 := (hb0.frozen (p := ⟨g0, l0.length * 4 + 2, none⟩) hg0w).trans (hxf _)
        have p7 : ((w.alloc (.cells #[.int .i64 x.kind, .int .i64 n, .string text, .slice A2 la.length c2] 30)).drewN nq).cell? ⟨w.heap.size, 1, none⟩ = some (.int .i64 n) := cell_of_row _ w.heap.size 1 _ _ _ (heap_alloc_new w _)
        have p8 : ((w.alloc (.cells #[.int .i64 x.kind, .int .i64 n, .string text, .slice A2 la.length c2] 30)).drewN nq).cell? ⟨w.heap.size, 2, none⟩ = some (.string text) := cell_of_row _ w.heap.size 2 _ _ _ (heap_alloc_new w _)
        have ne1 : g0 ≠ rb := own_ne_blockO hown hrb hT1 g0 rfl
        have ne2 : g0 ≠ w.heap.size := by omega
        have ne3 : rb ≠ w.heap.size := by omega
        generalize ((w.alloc (.cells #[.int .i64 x.kind, .int .i64 n, .string text, .slice A2 la.length c2] 30)).drewN nq) = W1 at *
        go_wp2_with fail
        go_region
        have p9 : (W1.setCell ⟨g0, l0.length * 4 + 1, none⟩ (.int .i64 (wrap64 (x.n + n)))).cell? ⟨rb, 0, none⟩ = some (.slice (some ⟨g0, 0, none⟩) (l0.length + 1) c) := (World.cell?_setCell_other _ _ _ _ (by simp)).trans p1
        have p10 : (W1.setCell ⟨g0, l0.length * 4 + 1, none⟩ (.int .i64 (wrap64 (x.n + n)))).cell? ⟨g0, l0.length * 4 + 2, none⟩ = some (.string x.text) := (World.cell?_setCell_other _ _ _ _ (by simp)).trans p4
        have p11 : (W1.setCell ⟨g0, l0.length * 4 + 1, none⟩ (.int .i64 (wrap64 (x.n + n)))).cell? ⟨w.heap.size, 2, none⟩ = some (.string text) := (World.cell?_setCell_other _ _ _ _ (by simp)).trans p8
        have p12 : (W1.setCell ⟨g0, l0.length * 4 + 1, none⟩ (.int .i64 (wrap64 (x.n + n)))).frozen? ⟨g0, l0.length * 4 + 2, none⟩ = false := by simp [p6]
        go_wp2_with fail
        go_region
        go_wp2_with fail
        refine bodyPost_ret (results_none rfl _ _ _) rfl ⟨rfl, ?_⟩
        exact put_join hrb hcs hT1 hown hb0 hx hat rfl rfl
      | false =>
        rw [hat] at cq
        have hno : (x.kind == kind && attrsEq x.attrs la) = false := by simp [hat]
        have hke : (x.kind == kind) = true := by simp [hkd]
        go_enter Tryd.func136, Tryd.ntmps136
        go_wp2_with fail
        go_quiet (first | (go_at_call 98; refine Calls.quiet_of (cq _ ?_ ?_); exact Rd.below ⟨A4, c4, rfl, hA4, hr4⟩ (below_drewN ((Below.refl _ _).alloc (Nat.le_refl _) _) _); exact Rd.below ⟨A2, c2, rfl, hA2, hr2⟩ (below_drewN ((Below.refl _ _).alloc (Nat.le_refl _) _) _)))
        have hb0 : Below w.heap.size w ((w.alloc (.cells #[.int .i64 kind, .int .i64 n, .string text, .slice A2 la.length c2] 30)).drewN nq) := below_drewN ((Below.refl _ _).alloc (Nat.le_refl _) _) _
        have hrd0 := Lib.hid (Rd.below ⟨A2, c2, rfl, hA2, hr2⟩ hb0)
        go_wp2_with (at_builtin; refine wpList_append_attrs0 rfl _ _ rfl la S rfl rfl hrd0.out ?_; intro v3 w1 hb1 ho1; have hq1 := (bcell hb1).1; have hq2 := (bcell hb1).2; have hb1' : Below w.heap.size w w1 := hb0.trans (hb1.mono hb0.size); (have hz1 : w.heap.size < w1.heap.size := by have := hb1.size; simp at this; omega); obtain ⟨A3, c3, rfl, hA3, hr3⟩ := ho1.rd; have hc1 := (hb1'.cell (p := ⟨rb, 0, none⟩) hrbw).trans hc0; have hfz1 := (hb1'.frozen (p := ⟨rb, 0, none⟩) hrbw).trans hfz)
        have hcg : Chg (fun k => k = w.heap.size) w (w1.setCell ⟨w.heap.size, 3, none⟩ (.slice A3 la.length c3)) := (Chg.of_below hb1' _).setCell _ fun _ => rfl
        have ho2 : OwnO lo (w1.setCell ⟨w.heap.size, 3, none⟩ (.slice A3 la.length c3)) _ _ := hown.chg hcg (fun k hk e => by have := (hown.lt k hk).2; omega) (fun k _ hk e => by obtain ⟨_, _, hk⟩ := hk; have := (Array.getElem?_eq_some_iff.1 hk).1; omega)
        have hoa2 : OwnA lo (w1.setCell ⟨w.heap.size, 3, none⟩ (.slice A3 la.length c3)) (.slice A3 la.length c3) la := (ho1.mono (by simp; omega)).chg (X := fun k => k = w.heap.size) ((Chg.refl _ w1).setCell _ fun _ => rfl) (fun k hk e => by have := (ho1.1.lt k hk).1; simp at this; omega)
        have hk0 : (w1.setCell ⟨w.heap.size, 3, none⟩ (.slice A3 la.length c3)).cell? ⟨w.heap.size, 0, none⟩ = some (.int .i64 kind) := (World.cell?_setCell_other _ _ _ _ (by simp)).trans ((hq1 w.heap.size 0 (by simp)).trans (cell_of_row _ w.heap.size 0 _ _ _ (heap_alloc_new w _)))
        have hk1 : (w1.setCell ⟨w.heap.size, 3, none⟩ (.slice A3 la.length c3)).cell? ⟨w.heap.size, 1, none⟩ = some (.int .i64 n) := (World.cell?_setCell_other _ _ _ _ (by simp)).trans ((hq1 w.heap.size 1 (by simp)).trans (cell_of_row _ w.heap.size 1 _ _ _ (heap_alloc_new w _)))
        have hk2 : (w1.setCell ⟨w.heap.size, 3, none⟩ (.slice A3 la.length c3)).cell? ⟨w.heap.size, 2, none⟩ = some (.string text) := (World.cell?_setCell_other _ _ _ _ (by simp)).trans ((hq1 w.heap.size 2 (by simp)).trans (cell_of_row _ w.heap.size 2 _ _ _ (heap_alloc_new w _)))
        have hk3 : (w1.setCell ⟨w.heap.size, 3, none⟩ (.slice A3 la.length c3)).cell? ⟨w.heap.size, 3, none⟩ = some (.slice A3 la.length c3) := World.cell?_setCell_same w1 _ _ ((hq1 w.heap.size 3 (by simp)).trans (cell_of_row _ w.heap.size 3 _ _ _ (heap_alloc_new w _)))
        have hrb2 : (w1.setCell ⟨w.heap.size, 3, none⟩ (.slice A3 la.length c3)).heap[rb]? = some (.cells cs T (0, 0)) := (hcg.block rb hrbw (by omega)).trans hrb
        have hz2 := hcg.size
        have hz3 : w.heap.size < (w1.setCell ⟨w.heap.size, 3, none⟩ (.slice A3 la.length c3)).heap.size := by simp [World.setCell]; omega
        generalize w1.setCell ⟨w.heap.size, 3, none⟩ (.slice A3 la.length c3) = W2 at *
        have hr2' : W2.cell? ⟨rb, 0, none⟩ = some (.slice (some ⟨g0, 0, none⟩) (l0.length + 1) c) := by rw [cell_of_row W2 rb 0 cs T (0, 0) hrb2]; exact hcs
        have hf2 : W2.frozen? ⟨rb, 0, none⟩ = false := by simp [World.frozen?, hrb2]
        have q1 : Hid (OwnO lo W2.drew (.slice (some ⟨g0, 0, none⟩) (l0.length + 1) c) (l0 ++ [x])) := OwnO.below ho2 (Below.refl _ _).drew
        have q2 : Hid (OwnA lo W2.drew (.slice A3 la.length c3) la) := OwnA.below hoa2 (Below.refl _ _).drew
        have q3 : lo ≤ W2.heap.size := by omega
        have q5 : Hid (putL (l0 ++ [x]) ⟨kind, n, text, la⟩ = (l0 ++ [x]) ++ [⟨kind, n, text, la⟩]) := by unfold Hid; simp [putL, opLike, hno]
        have q4 : Hid (∀ k, (Value.slice (some ⟨g0, 0, none⟩) (l0.length + 1) c).ownBlock = some k → k ≠ rb) := own_ne_blockO ho2 hrb2 hT1
        have hr2a : ∀ o, (W2.alloc o).cell? ⟨rb, 0, none⟩ = some (.slice (some ⟨g0, 0, none⟩) (l0.length + 1) c) := fun o => (World.cell?_of_block (Below.heap_alloc W2 o rb (by omega))).trans hr2'
        go_region_law ((
          refine step_append_op1 (by rfl) (.tmp 76) (.tmp 78) (by rfl) lo (.slice (some ⟨g0, 0, none⟩) (l0.length + 1) c) (l0 ++ [x]) (l0.length + 1) e1 ⟨kind, n, text, la⟩ (.slice A3 la.length c3) W2.heap.size (by simp [Act.eval]) (by simp [Act.eval]) (by simp) q1.out q2.out hft (by rfl) hlen (by simpa using q3) ?_
          intro g cap w3 hown3 hgrow hat
          have hrb3 := (hgrow.block rb (by simp; omega) (fun e => q4.out rb e.symm rfl)).trans hrb2
          have hr3 : w3.cell? ⟨rb, 0, none⟩ = some (.slice (some ⟨g0, 0, none⟩) (l0.length + 1) c) := (hgrow.cell_far ⟨rb, 0, none⟩ (by simp; omega) (fun e => q4.out rb e.symm rfl)).trans hr2'
          have hf3 : w3.frozen? ⟨rb, 0, none⟩ = false := (hgrow.frozen_far ⟨rb, 0, none⟩ (by simp; omega) (fun e => q4.out rb e.symm rfl)).trans hf2))
        all_goals
          go_wp2
          refine bodyPost_end (results_none rfl _ _ _) rfl ⟨rfl, ?_⟩
          exact put_end hrb hcs hT1 hT2 hcg hgrow hrb3 hown3 hat hz2 q5.out
    · have hno : (x.kind == kind && attrsEq x.attrs la) = false := by simp [hkd]
      have hke : (x.kind == kind) = false := by simp [hkd]
      go_enter Tryd.func136, Tryd.ntmps136
      go_wp2_with fail
      go_quiet (fail)
      have hb0 : Below w.heap.size w ((w.alloc (.cells #[.int .i64 kind, .int .i64 n, .string text, .slice A2 la.length c2] 30)).drewN nq) := below_drewN ((Below.refl _ _).alloc (Nat.le_refl _) _) _
      have hrd0 := Lib.hid (Rd.below ⟨A2, c2, rfl, hA2, hr2⟩ hb0)
      go_wp2_with (at_builtin; refine wpList_append_attrs0 rfl _ _ rfl la S rfl rfl hrd0.out ?_; intro v3 w1 hb1 ho1; have hq1 := (bcell hb1).1; have hq2 := (bcell hb1).2; have hb1' : Below w.heap.size w w1 := hb0.trans (hb1.mono hb0.size); (have hz1 : w.heap.size < w1.heap.size := by have := hb1.size; simp at this; omega); obtain ⟨A3, c3, rfl, hA3, hr3⟩ := ho1.rd; have hc1 := (hb1'.cell (p := ⟨rb, 0, none⟩) hrbw).trans hc0; have hfz1 := (hb1'.frozen (p := ⟨rb, 0, none⟩) hrbw).trans hfz)
      have hcg : Chg (fun k => k = w.heap.size) w (w1.setCell ⟨w.heap.size, 3, none⟩ (.slice A3 la.length c3)) := (Chg.of_below hb1' _).setCell _ fun _ => rfl
      have ho2 : OwnO lo (w1.setCell ⟨w.heap.size, 3, none⟩ (.slice A3 la.length c3)) _ _ := hown.chg hcg (fun k hk e => by have := (hown.lt k hk).2; omega) (fun k _ hk e => by obtain ⟨_, _, hk⟩ := hk; have := (Array.getElem?_eq_some_iff.1 hk).1; omega)
      have hoa2 : OwnA lo (w1.setCell ⟨w.heap.size, 3, none⟩ (.slice A3 la.length c3)) (.slice A3 la.length c3) la := (ho1.mono (by simp; omega)).chg (X := fun k => k = w.heap.size) ((Chg.refl _ w1).setCell _ fun _ => rfl) (fun k hk e => by have := (ho1.1.lt k hk).1; simp at this; omega)
      have hk0 : (w1.setCell ⟨w.heap.size, 3, none⟩ (.slice A3 la.length c3)).cell? ⟨w.heap.size, 0, none⟩ = some (.int .i64 kind) := (World.cell?_setCell_other _ _ _ _ (by simp)).trans ((hq1 w.heap.size 0 (by simp)).trans (cell_of_row _ w.heap.size 0 _ _ _ (heap_alloc_new w _)))
      have hk1 : (w1.setCell ⟨w.heap.size, 3, none⟩ (.slice A3 la.length c3)).cell? ⟨w.heap.size, 1, none⟩ = some (.int .i64 n) := (World.cell?_setCell_other _ _ _ _ (by simp)).trans ((hq1 w.heap.size 1 (by simp)).trans (cell_of_row _ w.heap.size 1 _ _ _ (heap_alloc_new w _)))
      have hk2 : (w1.setCell ⟨w.heap.size, 3, none⟩ (.slice A3 la.length c3)).cell? ⟨w.heap.size, 2, none⟩ = some (.string text) := (World.cell?_setCell_other _ _ _ _ (by simp)).trans ((hq1 w.heap.size 2 (by simp)).trans (cell_of_row _ w.heap.size 2 _ _ _ (heap_alloc_new w _)))
      have hk3 : (w1.setCell ⟨w.heap.size, 3, none⟩ (.slice A3 la.length c3)).cell? ⟨w.heap.size, 3, none⟩ = some (.slice A3 la.length c3) := World.cell?_setCell_same w1 _ _ ((hq1 w.heap.size 3 (by simp)).trans (cell_of_row _ w.heap.size 3 _ _ _ (heap_alloc_new w _)))
      have hrb2 : (w1.setCell ⟨w.heap.size, 3, none⟩ (.slice A3 la.length c3)).heap[rb]? = some (.cells cs T (0, 0)) := (hcg.block rb hrbw (by omega)).trans hrb
      have hz2 := hcg.size
      have hz3 : w.heap.size < (w1.setCell ⟨w.heap.size, 3, none⟩ (.slice A3 la.length c3)).heap.size := by simp [World.setCell]; omega
      generalize w1.setCell ⟨w.heap.size, 3, none⟩ (.slice A3 la.length c3) = W2 at *
      have hr2' : W2.cell? ⟨rb, 0, none⟩ = some (.slice (some ⟨g0, 0, none⟩) (l0.length + 1) c) := by rw [cell_of_row W2 rb 0 cs T (0, 0) hrb2]; exact hcs
      have hf2 : W2.frozen? ⟨rb, 0, none⟩ = false := by simp [World.frozen?, hrb2]
      have q1 : Hid (OwnO lo W2.drew (.slice (some ⟨g0, 0, none⟩) (l0.length + 1) c) (l0 ++ [x])) := OwnO.below ho2 (Below.refl _ _).drew
      have q2 : Hid (OwnA lo W2.drew (.slice A3 la.length c3) la) := OwnA.below hoa2 (Below.refl _ _).drew
      have q3 : lo ≤ W2.heap.size := by omega
      have q5 : Hid (putL (l0 ++ [x]) ⟨kind, n, text, la⟩ = (l0 ++ [x]) ++ [⟨kind, n, text, la⟩]) := by unfold Hid; simp [putL, opLike, hno]
      have q4 : Hid (∀ k, (Value.slice (some ⟨g0, 0, none⟩) (l0.length + 1) c).ownBlock = some k → k ≠ rb) := own_ne_blockO ho2 hrb2 hT1
      have hr2a : ∀ o, (W2.alloc o).cell? ⟨rb, 0, none⟩ = some (.slice (some ⟨g0, 0, none⟩) (l0.length + 1) c) := fun o => (World.cell?_of_block (Below.heap_alloc W2 o rb (by omega))).trans hr2'
      go_region_law ((
        refine step_append_op1 (by rfl) (.tmp 76) (.tmp 78) (by rfl) lo (.slice (some ⟨g0, 0, none⟩) (l0.length + 1) c) (l0 ++ [x]) (l0.length + 1) e1 ⟨kind, n, text, la⟩ (.slice A3 la.length c3) W2.heap.size (by simp [Act.eval]) (by simp [Act.eval]) (by simp) q1.out q2.out hft (by rfl) hlen (by simpa using q3) ?_
        intro g cap w3 hown3 hgrow hat
        have hrb3 := (hgrow.block rb (by simp; omega) (fun e => q4.out rb e.symm rfl)).trans hrb2
        have hr3 : w3.cell? ⟨rb, 0, none⟩ = some (.slice (some ⟨g0, 0, none⟩) (l0.length + 1) c) := (hgrow.cell_far ⟨rb, 0, none⟩ (by simp; omega) (fun e => q4.out rb e.symm rfl)).trans hr2'
        have hf3 : w3.frozen? ⟨rb, 0, none⟩ = false := (hgrow.frozen_far ⟨rb, 0, none⟩ (by simp; omega) (fun e => q4.out rb e.symm rfl)).trans hf2))
      all_goals
        go_wp2
        refine bodyPost_end (results_none rfl _ _ _) rfl ⟨rfl, ?_⟩
        exact put_end hrb hcs hT1 hT2 hcg hgrow hrb3 hown3 hat hz2 q5.out
end Go.Proofs.YtaemajcpgmaapaaDoor

namespace Go.Proofs.YtaemajcpgmaapaaDoor
open Go.RowKit

/-- What a method of the writer leaves. -/
def WPost (lo wb : Nat) (v : Value) (s : List Op × Int) (long : Int) (w w' : World) : Prop :=
  ∃ v', w'.heap[wb]? = some (.cells #[v', .int .i64 s.2, .int .i64 long] 77 (0, 0)) ∧ OwnO lo w' v' s.1 ∧ Chg (fun k => k = wb ∨ v.ownBlock = some k) w w' ∧ (v'.ownBlock = v.ownBlock ∨ ∃ k, v'.ownBlock = some k ∧ w.heap.size ≤ k)
theorem OwnO.offW {lo wb : Nat} {w w' : World} {v : Value} {l : List Op} {cs : Array Value} (h : OwnO lo w v l) (hmb : w.heap[wb]? = some (.cells cs 77 (0, 0))) (hc : Chg (fun k => k = wb) w w') : OwnO lo w' v l :=
  h.off hmb (by decide) (by decide) hc
theorem WPost.trans {lo wb : Nat} {v : Value} {s' : List Op × Int} {long' : Int} {w w1 w2 : World} {v1 : Value} (hc : Chg (fun k => k = wb ∨ v.ownBlock = some k) w w1) (hv : v1.ownBlock = v.ownBlock ∨ ∃ k, v1.ownBlock = some k ∧ w.heap.size ≤ k) (h : WPost lo wb v1 s' long' w1 w2) : WPost lo wb v s' long' w w2 := by
  obtain ⟨v2, h1, h2, h3, h4⟩ := h
  refine ⟨v2, h1, h2, hc.trans h3 fun k hk e => ?_, ?_⟩
  · rcases e with e | e
    · exact .inl e
    · rcases hv with hv | ⟨j, hv, hj⟩
      · exact .inr (by rw [← hv]; exact e)
      · rw [hv] at e; injection e with e; omega
  · rcases h4 with h4 | ⟨j, h4, hj⟩
    · rcases hv with hv | ⟨j, hv, hj⟩
      · exact .inl (h4.trans hv)
      · exact .inr ⟨j, h4.trans hv, hj⟩
    · exact .inr ⟨j, h4, by have := hc.size; omega⟩

set_option maxRecDepth 100000 in
set_option maxHeartbeats 1000000 in
theorem fFlush (wb lo : Nat) (v : Value) (l : List Op) (gone long : Int) (w : World)
    (hmb : w.heap[wb]? = some (.cells #[v, .int .i64 gone, .int .i64 long] 77 (0, 0))) (hlo : lo ≤ wb) (hown : OwnO lo w v l) (hlen : (l.length + 1) * 56 ≤ 140737488355328) :
    Calls Tryd.prog 137 #[.pointer (some ⟨wb, 0, none⟩)] w fun e w' => e = .returned (.tuple #[]) ∧ WPost lo wb v (flushL (l, gone)) long w w' := by
  have hsz := hown.fits
  have c1 : w.cell? ⟨wb, 1, none⟩ = some (.int .i64 gone) := by rw [cell_of_row w wb 1 _ 77 (0, 0) hmb]; rfl
  by_cases hg : 0 < gone
  · have hd : decide (0 < gone) = true := by simp [hg]
    have HF : Hid (flushL (l, gone) = (putL l ⟨3, gone, ⟨#[]⟩, []⟩, 0)) := by unfold Hid flushL; rw [if_pos hg]
    have hput := fPut wb #[v, .int .i64 gone, .int .i64 long] 77 v l lo 3 gone ⟨#[]⟩ (.slice none 0 0) [] (fun _ => True) w hmb rfl hlo (by decide) (by decide) hown (Rd.nil _ _ _ _ _ (by simp)) (by show (0 : Nat) ≤ _; omega) (fun x hx => by show x.text.size + 0 ≤ _; have := hsz x hx; unfold Fits at this; omega) hlen
    go_enter Tryd.func137, Tryd.ntmps137
    go_wp2_with fail
    with_reducible refine hput.mono ?_
    rintro e w1 ⟨rfl, v', hmb1, ho1, hc1, hv1⟩
    have k1 : w1.cell? ⟨wb, 1, none⟩ = some (.int .i64 gone) := cell_of_row _ wb 1 _ 77 (0, 0) hmb1
    have k2 : w1.frozen? ⟨wb, 1, none⟩ = false := by simp [World.frozen?, hmb1]
    go_wp2_with fail
    refine bodyPost_end (results_none rfl _ _ _) rfl ⟨rfl, ?_⟩
    rw [HF.out]
    have hs : Chg (fun k => k = wb) w1 (w1.setCell ⟨wb, 1, none⟩ (.int .i64 0)) := (Chg.refl _ _).setCell _ fun _ => rfl
    exact ⟨v', heap_setCell_same w1 wb 1 _ _ _ hmb1, ho1.offW hmb1 hs, hc1.trans hs fun k _ e => .inl e, hv1⟩
  · have hd : decide (0 < gone) = false := by simp [hg]
    have HF : Hid (flushL (l, gone) = (l, gone)) := by unfold Hid flushL; rw [if_neg hg]
    go_enter Tryd.func137, Tryd.ntmps137
    go_wp2_with fail
    refine bodyPost_end (results_none rfl _ _ _) rfl ⟨rfl, v, ?_⟩
    rw [HF.out]
    exact ⟨hmb, hown, Chg.refl _ _, .inl rfl⟩

set_option maxRecDepth 100000 in
set_option maxHeartbeats 1000000 in
theorem fKeep (wb lo : Nat) (v : Value) (l : List Op) (gone long : Int) (kind n : Int) (text : ByteArray) (va : Value) (la : List Attr) (S : Nat → Prop) (w : World)
    (hmb : w.heap[wb]? = some (.cells #[v, .int .i64 gone, .int .i64 long] 77 (0, 0))) (hlo : lo ≤ wb) (hown : OwnO lo w v l) (hva : Rd KA S w va la) (hS : ∀ k, S k → k ≠ wb ∧ v.ownBlock ≠ some k) (hft : Fits text)
    (hsz : ∀ x ∈ l, x.text.size + text.size ≤ 140737488355328) (hlen : (l.length + 2) * 56 ≤ 140737488355328) :
    Calls Tryd.prog 76 #[.pointer (some ⟨wb, 0, none⟩), .agg #[.int .i64 kind, .int .i64 n, .string text, va]] w fun e w' => e = .returned (.tuple #[]) ∧ WPost lo wb v (putL (flushL (l, gone)).1 ⟨kind, n, text, la⟩, (flushL (l, gone)).2) long w w' := by
  have hwb : wb < w.heap.size := (Array.getElem?_eq_some_iff.1 hmb).1
  obtain ⟨A2, c2, rfl, hA2, hr2⟩ := hva
  have hb0 : Below w.heap.size w (w.alloc (.cells #[.int .i64 kind, .int .i64 n, .string text, .slice A2 la.length c2] 30)) := (Below.refl _ _).alloc (Nat.le_refl _) _
  have hfl := fFlush wb lo v l gone long _ ((hb0.block wb hwb).trans hmb) hlo (hown.below hb0) (by omega)
  have hfb := flushL_bd (s := (l, gone)) (M := 140737488355328 - text.size) (fun x hx => by have := hsz x hx; omega)
  have hownlt := hown.lt
  generalize flushL (l, gone) = fs at *
  obtain ⟨fl, fg⟩ := fs
  have hbxc := heap_alloc_new w (.cells #[.int .i64 kind, .int .i64 n, .string text, .slice A2 la.length c2] 30)
  go_enter Tryd.func76, Tryd.ntmps76
  go_wp2_with fail
  with_reducible refine hfl.mono ?_
  rintro e w3 ⟨rfl, v3, hm3, ho3, hc3, hv3⟩
  dsimp only at hm3 ho3
  have hbx3 : w3.heap[w.heap.size]? = some (.cells #[.int .i64 kind, .int .i64 n, .string text, .slice A2 la.length c2] 30 (0, 0)) :=
    (hc3.block w.heap.size (by simp) (fun e => e.elim (fun e => by omega) (fun e => by have := (hownlt _ e).2; omega))).trans hbxc
  have j0 : w3.cell? ⟨w.heap.size, 0, none⟩ = some (.int .i64 kind) := cell_of_row w3 _ 0 _ _ _ hbx3
  have j1 : w3.cell? ⟨w.heap.size, 1, none⟩ = some (.int .i64 n) := cell_of_row w3 _ 1 _ _ _ hbx3
  have j2 : w3.cell? ⟨w.heap.size, 2, none⟩ = some (.string text) := cell_of_row w3 _ 2 _ _ _ hbx3
  have j3 : w3.cell? ⟨w.heap.size, 3, none⟩ = some (.slice A2 la.length c2) := cell_of_row w3 _ 3 _ _ _ hbx3
  have hcw : Chg (fun k => k = wb ∨ v.ownBlock = some k) w w3 := (Chg.of_below hb0 _).trans hc3 fun _ _ h => h
  have hv4 : v3.ownBlock = v.ownBlock ∨ ∃ k, v3.ownBlock = some k ∧ w.heap.size ≤ k := hv3.imp id fun ⟨k, h1, h2⟩ => ⟨k, h1, by simp at h2; omega⟩
  have hput := fPut wb #[v3, .int .i64 fg, .int .i64 long] 77 v3 fl lo kind n text (.slice A2 la.length c2) la S w3 hm3 rfl hlo (by decide) (by decide) ho3 (Rd.chg ⟨A2, c2, rfl, hA2, hr2⟩ hcw fun k hk e => e.elim (hS k hk).1 (hS k hk).2) hft (fun x hx => by have := hfb.2 x hx; unfold Fits at hft; omega) (by have := hfb.1; omega)
  have H1 := Lib.hid hput
  have H2 := Lib.hid hcw
  have H3 := Lib.hid hv4
  clear hput hcw hv4 hfl hfb hm3 ho3 hc3 hv3 hownlt
  go_wp2_with fail
  with_reducible refine H1.out.mono ?_
  rintro e w4 ⟨rfl, v5, hm5, ho5, hc5, hv5⟩
  go_wp2_with fail
  refine bodyPost_end (results_none rfl _ _ _) rfl ⟨rfl, ?_⟩
  exact WPost.trans H2.out H3.out ⟨v5, hm5, ho5, hc5, hv5⟩

set_option maxRecDepth 100000 in
set_option maxHeartbeats 1000000 in
theorem fInsert (wb lo : Nat) (v : Value) (l : List Op) (gone long : Int) (kind n : Int) (text : ByteArray) (va : Value) (la : List Attr) (S : Nat → Prop) (w : World)
    (hmb : w.heap[wb]? = some (.cells #[v, .int .i64 gone, .int .i64 long] 77 (0, 0))) (hlo : lo ≤ wb) (hown : OwnO lo w v l) (hva : Rd KA S w va la) (hS : ∀ k, S k → k ≠ wb ∧ v.ownBlock ≠ some k) (hft : Fits text)
    (hsz : ∀ x ∈ l, x.text.size + text.size ≤ 140737488355328) (hlen : (l.length + 2) * 56 ≤ 140737488355328) :
    Calls Tryd.prog 74 #[.pointer (some ⟨wb, 0, none⟩), .agg #[.int .i64 kind, .int .i64 n, .string text, va]] w fun e w' => e = .returned (.tuple #[]) ∧ WPost lo wb v (putL l ⟨kind, n, text, la⟩, gone) (wrap64 (long + Lib.runeCount text)) w w' := by
  have hwb : wb < w.heap.size := (Array.getElem?_eq_some_iff.1 hmb).1
  obtain ⟨A2, c2, rfl, hA2, hr2⟩ := hva
  have hb0 : Below w.heap.size w (w.alloc (.cells #[.int .i64 kind, .int .i64 n, .string text, .slice A2 la.length c2] 30)) := (Below.refl _ _).alloc (Nat.le_refl _) _
  have hl2 : text.size < 9223372036854775807 := by unfold Fits at hft; omega
  have c1 := fun W => Tryd.utf8_RuneCountInString text W hl2
  have hcnt : Lib.runeCount text ≤ 140737488355328 := Nat.le_trans (Lib.runeCount_le text) hft
  have k2 : w.cell? ⟨wb, 2, none⟩ = some (.int .i64 long) := by rw [cell_of_row w wb 2 _ 77 (0, 0) hmb]; rfl
  have k3 : w.frozen? ⟨wb, 2, none⟩ = false := by simp [World.frozen?, hmb]
  have ne1 : wb ≠ w.heap.size := by omega
  generalize Lib.runeCount text = rc at *
  have hs0 : Chg (fun k => k = wb) w (w.setCell ⟨wb, 2, none⟩ (.int .i64 (wrap64 (long + rc)))) := (Chg.refl _ _).setCell _ fun _ => rfl
  have hs1 : ∀ pos, Chg (fun k => k = wb) w (((w.setCell ⟨wb, 2, none⟩ (.int .i64 (wrap64 (long + rc)))).alloc (.cells #[.int .i64 kind, .int .i64 n, .string text, .slice A2 la.length c2] 30)).alloc (.stringIter text pos)).drew := fun pos => ((hs0.alloc _).alloc _).drew
  have hs2 : ∀ pos, (((w.setCell ⟨wb, 2, none⟩ (.int .i64 (wrap64 (long + rc)))).alloc (.cells #[.int .i64 kind, .int .i64 n, .string text, .slice A2 la.length c2] 30)).alloc (.stringIter text pos)).drew.heap[wb]? = some (.cells #[v, .int .i64 gone, .int .i64 (wrap64 (long + rc))] 77 (0, 0)) := fun pos =>
    (Below.heap_alloc _ _ _ (by simp [World.setCell]; omega)).trans ((Below.heap_alloc _ _ _ (by simp [World.setCell]; omega)).trans (heap_setCell_same w wb 2 _ _ _ hmb))
  have hput := fun pos => fPut wb #[v, .int .i64 gone, .int .i64 (wrap64 (long + rc))] 77 v l lo kind n text (.slice A2 la.length c2) la S _ (hs2 pos) rfl hlo (by decide) (by decide) (hown.offW hmb (hs1 pos)) (Rd.chg ⟨A2, c2, rfl, hA2, hr2⟩ (hs1 pos) fun k hk e => (hS k hk).1 e) hft hsz (by omega)
  have HP := Lib.hid hput
  have HC := Lib.hid hs1
  clear hput hs0 hs1 hs2
  go_enter Tryd.func74, Tryd.ntmps74
  go_wp2_with fail
  go_region_law ((
    refine step_call_law (by rfl) 77 (.tmp 9) 9 (by rfl) (.string text) (by simp [Act.eval]) (fun w => callFunc_enter Tryd.func77 (by kernel_rfl) rfl _ w) (c1 _) (fun e w' h => ⟨_, h.1⟩) ?_
    rintro v1 w1 ⟨hv1, pos, rfl⟩
    injection hv1 with hv1
    subst hv1
    unfold World.iter))
  all_goals
    go_wp2_with fail
    with_reducible refine (HP.out _).mono ?_
    rintro e w4 ⟨rfl, v5, hm5, ho5, hc5, hv5⟩
    go_wp2_with fail
    refine bodyPost_end (results_none rfl _ _ _) rfl ⟨rfl, ?_⟩
    exact WPost.trans ((HC.out _).mono fun k _ e => .inl e) (.inl rfl) ⟨v5, hm5, ho5, hc5, hv5⟩

set_option maxHeartbeats 1000000 in
theorem fSkip (wb : Nat) (u : Value) (w : World) (hu : ∃ k n t va, u = .agg #[.int .i64 k, .int .i64 n, .string t, va]) :
    Calls Tryd.prog 80 #[.pointer (some ⟨wb, 0, none⟩), u] w fun e w' => e = .returned (.tuple #[]) ∧ Below w.heap.size w w' := by
  obtain ⟨k, n, t, va, rfl⟩ := hu
  go_enter Tryd.func80, Tryd.ntmps80
  go_wp2_with fail
  refine bodyPost_end (results_none rfl _ _ _) rfl ⟨rfl, ?_⟩
  exact (Below.refl _ _).alloc (Nat.le_refl _) _

set_option maxRecDepth 100000 in
set_option maxHeartbeats 1000000 in
theorem fRemove (wb lo : Nat) (v : Value) (l : List Op) (gone long : Int) (kind n : Int) (text : ByteArray) (va : Value) (w : World)
    (hmb : w.heap[wb]? = some (.cells #[v, .int .i64 gone, .int .i64 long] 77 (0, 0))) (hown : OwnO lo w v l) :
    Calls Tryd.prog 81 #[.pointer (some ⟨wb, 0, none⟩), .agg #[.int .i64 kind, .int .i64 n, .string text, va]] w fun e w' => e = .returned (.tuple #[]) ∧ WPost lo wb v (l, wrap64 (gone + n)) (wrap64 (long - n)) w w' := by
  have hwb : wb < w.heap.size := (Array.getElem?_eq_some_iff.1 hmb).1
  have k1 : w.cell? ⟨wb, 1, none⟩ = some (.int .i64 gone) := by rw [cell_of_row w wb 1 _ 77 (0, 0) hmb]; rfl
  have k2 : w.cell? ⟨wb, 2, none⟩ = some (.int .i64 long) := by rw [cell_of_row w wb 2 _ 77 (0, 0) hmb]; rfl
  have k3 : ∀ j, w.frozen? ⟨wb, j, none⟩ = false := fun j => by simp [World.frozen?, hmb]
  have ne1 : wb ≠ w.heap.size := by omega
  go_enter Tryd.func81, Tryd.ntmps81
  go_wp2_with fail
  go_region
  go_wp2_with fail
  go_region
  go_wp2_with fail
  refine bodyPost_end (results_none rfl _ _ _) rfl ⟨rfl, v, ?_⟩
  have hs0 : Chg (fun k => k = wb) w (((w.setCell ⟨wb, 2, none⟩ (.int .i64 (wrap64 (long - n)))).setCell ⟨wb, 1, none⟩ (.int .i64 (wrap64 (gone + n)))).alloc (.cells #[.int .i64 kind, .int .i64 n, .string text, va] 30)).drew.drew :=
    (((((Chg.refl (fun k => k = wb) w).setCell (p := ⟨wb, 2, none⟩) _ fun _ => rfl).setCell (p := ⟨wb, 1, none⟩) _ fun _ => rfl).alloc _).drew).drew
  refine ⟨?_, hown.offW hmb hs0, hs0.mono fun k _ e => .inl e, .inl rfl⟩
  exact (Below.heap_alloc _ _ _ (by simp [World.setCell]; omega)).trans (heap_setCell_same _ wb 1 _ _ _ (heap_setCell_same w wb 2 _ _ _ hmb))

/-- The writer's answer. -/
def doneR (f : Int) (s : List Op × Int) (long : Int) : Change × Int :=
  if 20000 < long then (⟨0, []⟩, 3) else if 2000 < (trimL (flushL s).1).length then (⟨0, []⟩, 2) else (⟨f, trimL (flushL s).1⟩, 0)

/-- What stands behind the trim. -/
structure DonePre (lo wb : Nat) (v : Value) (w W : World) (A : Option Addr) (n c : Nat) (L : List Op) (fg long : Int) : Prop where
  hm : W.heap[wb]? = some (.cells #[.slice A n c, .int .i64 fg, .int .i64 long] 77 (0, 0))
  row : RowO lo W (.slice A n c) L
  res : W.heap[w.heap.size]? = some (.cells #[.int .i64 0, .slice none 0 0] 24 (0, 0))
  chg : Chg (fun k => k = wb ∨ v.ownBlock = some k) w W
theorem RowO.offC {lo B : Nat} {w w' : World} {v : Value} {l : List Op} {cs : Array Value} (h : RowO lo w v l) (hb : w.heap[B]? = some (.cells cs 24 (0, 0))) (hc : Chg (fun k => k = B) w w') : RowO lo w' v l :=
  h.off hb (by decide) (by decide) hc
/-- The end of done. -/
def DoneQ (lo wb : Nat) (v : Value) (w : World) (R : Change × Int) (e : Ending) (w' : World) : Prop :=
  ∃ v', e = .returned (.tuple #[.agg #[.int .i64 R.1.from_, v'], .int .i64 R.2]) ∧ RowO lo w' v' R.1.ops ∧ Chg (fun k => k = wb ∨ v.ownBlock = some k) w w'
theorem done_end {lo wb : Nat} {v : Value} {w W : World} {A : Option Addr} {n c : Nat} {L : List Op} {fg long : Int} (D : DonePre lo wb v w W A n c L fg long) (a : Act) (R : Change × Int) (u : Value)
    (hr : RowO lo W u R.1.ops) (h5 : a.tmps[5]?.getD undef = .int .i64 R.2) (h4 : a.tmps[4]?.getD undef = .pointer (some ⟨w.heap.size, 0, none⟩)) (hd : a.defers = []) :
    bodyPost Tryd.prog Tryd.f83 (DoneQ lo wb v w R) .ret a ((W.setCell ⟨w.heap.size, 0, none⟩ (.int .i64 R.1.from_)).setCell ⟨w.heap.size, 1, none⟩ u) := by
  have k5 : W.cell? ⟨w.heap.size, 0, none⟩ = some (.int .i64 0) := cell_of_row _ _ 0 _ _ _ D.res
  have k6 : W.cell? ⟨w.heap.size, 1, none⟩ = some (.slice none 0 0) := cell_of_row _ _ 1 _ _ _ D.res
  have r0 : ((W.setCell ⟨w.heap.size, 0, none⟩ (.int .i64 R.1.from_)).setCell ⟨w.heap.size, 1, none⟩ u).cell? ⟨w.heap.size, 0, none⟩ = some (.int .i64 R.1.from_) := (World.cell?_setCell_other _ _ _ _ (by simp)).trans (World.cell?_setCell_same _ _ _ k5)
  have r1 : ((W.setCell ⟨w.heap.size, 0, none⟩ (.int .i64 R.1.from_)).setCell ⟨w.heap.size, 1, none⟩ u).cell? ⟨w.heap.size, 1, none⟩ = some u := World.cell?_setCell_same _ _ _ ((World.cell?_setCell_other _ _ _ _ (by simp)).trans k6)
  have hc : Chg (fun k => k = w.heap.size) W ((W.setCell ⟨w.heap.size, 0, none⟩ (.int .i64 R.1.from_)).setCell ⟨w.heap.size, 1, none⟩ u) :=
    ((Chg.refl (fun k => k = w.heap.size) W).setCell (p := ⟨w.heap.size, 0, none⟩) _ fun _ => rfl).setCell (p := ⟨w.heap.size, 1, none⟩) _ fun _ => rfl
  refine bodyPost_ret (v := .tuple #[.agg #[.int .i64 R.1.from_, u], .int .i64 R.2]) ?_ hd ⟨u, rfl, hr.offC D.res hc, D.chg.trans hc fun k hk e => absurd hk (by omega)⟩
  simp [results, Tryd.results83, go_sem, r0, r1, h5, h4]

set_option maxRecDepth 100000 in
set_option maxHeartbeats 2000000 in
theorem fDone (wb lo : Nat) (v : Value) (l : List Op) (gone long f : Int) (w : World)
    (hmb : w.heap[wb]? = some (.cells #[v, .int .i64 gone, .int .i64 long] 77 (0, 0))) (hlo : lo ≤ wb) (hown : OwnO lo w v l) (hlen : (l.length + 1) * 56 ≤ 140737488355328) :
    Calls Tryd.prog 83 #[.pointer (some ⟨wb, 0, none⟩), .int .i64 f] w (DoneQ lo wb v w (doneR f (l, gone) long)) := by
  have hwb : wb < w.heap.size := (Array.getElem?_eq_some_iff.1 hmb).1
  have hb0 : Below w.heap.size w (w.alloc (.cells #[.int .i64 0, .slice none 0 0] 24)) := (Below.refl _ _).alloc (Nat.le_refl _) _
  have hfl := fFlush wb lo v l gone long _ ((hb0.block wb hwb).trans hmb) hlo (hown.below hb0) hlen
  have hownlt := hown.lt
  have HD : Hid (doneR f (l, gone) long = if 20000 < long then (⟨0, []⟩, 3) else if 2000 < (trimL (flushL (l, gone)).1).length then (⟨0, []⟩, 2) else (⟨f, trimL (flushL (l, gone)).1⟩, 0)) := rfl
  have hfb := (flushL_bd (s := (l, gone)) (M := 140737488355328) (fun x hx => hown.fits x hx)).1
  generalize doneR f (l, gone) long = R at *
  generalize flushL (l, gone) = fs at *
  obtain ⟨fl, fg⟩ := fs
  dsimp only at HD hfb
  have hres := heap_alloc_new w (.cells #[.int .i64 0, .slice none 0 0] 24)
  go_enter Tryd.func83, Tryd.ntmps83
  go_wp2_with fail
  with_reducible refine hfl.mono ?_
  rintro e w3 ⟨rfl, v3, hm3, ho3, hc3, hv3⟩
  dsimp only at hm3 ho3
  have hres3 : w3.heap[w.heap.size]? = some (.cells #[.int .i64 0, .slice none 0 0] 24 (0, 0)) :=
    (hc3.block w.heap.size (by simp) (fun e => e.elim (fun e => by omega) (fun e => by have := (hownlt _ e).2; omega))).trans hres
  have hcw : Chg (fun k => k = wb ∨ v.ownBlock = some k) w w3 := (Chg.of_below hb0 _).trans hc3 fun _ _ h => h
  clear hc3 hv3 hfl hres hb0 hownlt
  have p0 : w3.cell? ⟨wb, 0, none⟩ = some v3 := cell_of_row _ wb 0 _ _ _ hm3
  have p2 : w3.cell? ⟨wb, 2, none⟩ = some (.int .i64 long) := cell_of_row _ wb 2 _ _ _ hm3
  have pf := frozen_of_row w3 wb 0 _ _ hm3
  obtain ⟨A3, c3, rfl, hA3, hr3⟩ := ho3.rd
  have HD := HD.out
  rcases List.eq_nil_or_concat fl with rfl | ⟨l0, x, rfl⟩
  · have hT : trimL ([] : List Op) = [] := rfl
    rw [hT] at HD
    clear hr3 hT
    simp only [List.length_nil] at *
    have D : DonePre lo wb v w (w3) (A3) (0) c3 ([]) fg long := ⟨hm3, ho3.row, hres3, hcw⟩
    have r0 : (w3).cell? ⟨w.heap.size, 0, none⟩ = some (.int .i64 0) := cell_of_row _ _ 0 _ _ _ D.res
    have r1 : (w3).cell? ⟨w.heap.size, 1, none⟩ = some (.slice none 0 0) := cell_of_row _ _ 1 _ _ _ D.res
    have rf0 := frozen_of_row (w3) w.heap.size 0 _ _ D.res
    have rf1 := frozen_of_row (w3) w.heap.size 1 _ _ D.res
    obtain ⟨hn, hcA, hcn, hcm, hrow2⟩ := D.row.clip
    clear hn
    by_cases hL : 20000 < long
    · have hd : decide (20000 < long) = true := by simp [hL]
      obtain rfl : R = (⟨0, []⟩, 3) := by rw [HD, if_pos hL]
      clear HD hL
      go_wp2_with fail
      exact done_end D _ _ _ (RowO.nil _ _) rfl rfl rfl
    · have hd : decide (20000 < long) = false := by simp; omega
      obtain rfl : R = (⟨f, []⟩, 0) := by rw [HD, if_neg hL, if_neg (by simp)]
      clear HD hL
      have hclip := clip_any (A3) (0) c3 hcA hcn hcm
      go_wp2_with (go_at_call 95; (with_reducible refine (hclip _).mono ?_); rintro e w5 ⟨rfl, rfl⟩)
      exact done_end D _ _ _ hrow2 rfl rfl rfl
  · rw [List.concat_eq_append] at *
    have e1 : (l0 ++ [x]).length = l0.length + 1 := by simp
    rw [e1] at ho3 hA3 hm3 p0
    obtain ⟨g0, rfl⟩ : ∃ g0, A3 = some ⟨g0, 0, none⟩ := by
      obtain ⟨ps, hps, h1, _, _⟩ := ho3
      rcases h1.2 with ⟨h', _⟩ | ⟨g', cap', cur, h', _⟩
      · simp at h'
      · simp at h'
        exact ⟨g', by rw [h'.1]⟩
    obtain ⟨vx, hox, hfx, hx0, hx1, hx2, hx3, hxf⟩ := ho3.last
    obtain ⟨A4, c4, rfl, hA4, hr4⟩ := hox.rd
    have hwr2 : IntKind.i64.wrap ((l0.length : Int) + 1 - 1) = l0.length := by rw [show ((l0.length : Int) + 1 - 1) = (l0.length : Int) by omega, IntKind.wrap_i64]; omega
    have hlt2 : (l0.length : Int) < (l0.length : Int) + 1 := by omega
    have hlt3 : (0 : Int) ≤ (l0.length : Int) := by omega
    have hq1 : decide ((0 : Int) < (l0.length : Int) + 1) = true := decide_eq_true (by omega)
    have hgl : (l0 ++ [x]).getLast? = some x := by simp
    clear hr3 e1
    by_cases hk1 : x.kind = 1
    · have hkb : (x.kind == 1) = true := by simp [hk1]
      by_cases hat : x.attrs = []
      · have hab : ((x.attrs.length : Int) == 0) = true := by simp [hat]
        have hT : trimL (l0 ++ [x]) = l0 := by unfold trimL; rw [hgl]; simp [hk1, hat]
        rw [hT] at HD
        have HK := Lib.hid hk1
        have HA := Lib.hid hat
        have hcl := ho3.row.clip.2.2.1
        have hcm0 := ho3.row.clip.2.2.2.1
        have hcl2 : (l0.length : Int) ≤ (c3 : Int) := by omega
        clear hk1 hat hT hgl
        have hcC : Chg (fun k => k = wb) w3 (w3.setCell ⟨wb, 0, none⟩ (.slice (some ⟨g0, 0, none⟩) l0.length c3)) := (Chg.refl _ _).setCell _ fun _ => rfl
        have hrow : RowO lo (w3.setCell ⟨wb, 0, none⟩ (.slice (some ⟨g0, 0, none⟩) l0.length c3)) (.slice (some ⟨g0, 0, none⟩) l0.length c3) l0 := (ho3.row.cut c3 (by omega) (Nat.le_refl _)).off hm3 (by decide) (by decide) hcC
        have hm4 : (w3.setCell ⟨wb, 0, none⟩ (.slice (some ⟨g0, 0, none⟩) l0.length c3)).heap[wb]? = some (.cells #[.slice (some ⟨g0, 0, none⟩) l0.length c3, .int .i64 fg, .int .i64 long] 77 (0, 0)) := heap_setCell_same w3 wb 0 _ _ _ hm3
        have hres4 := (hcC.block w.heap.size (Array.getElem?_eq_some_iff.1 hres3).1 (by omega)).trans hres3
        have hcw4 := hcw.trans hcC fun k _ e => .inl e
        have p02 : (w3.setCell ⟨wb, 0, none⟩ (.slice (some ⟨g0, 0, none⟩) l0.length c3)).cell? ⟨wb, 2, none⟩ = some (.int .i64 long) := cell_of_row _ wb 2 _ _ _ hm4
        have p00 : (w3.setCell ⟨wb, 0, none⟩ (.slice (some ⟨g0, 0, none⟩) l0.length c3)).cell? ⟨wb, 0, none⟩ = some (.slice (some ⟨g0, 0, none⟩) l0.length c3) := cell_of_row _ wb 0 _ _ _ hm4
        have D : DonePre lo wb v w (w3.setCell ⟨wb, 0, none⟩ (.slice (some ⟨g0, 0, none⟩) l0.length c3)) (some ⟨g0, 0, none⟩) (l0.length) c3 (l0) fg long := ⟨hm4, hrow, hres4, hcw4⟩
        have r0 : (w3.setCell ⟨wb, 0, none⟩ (.slice (some ⟨g0, 0, none⟩) l0.length c3)).cell? ⟨w.heap.size, 0, none⟩ = some (.int .i64 0) := cell_of_row _ _ 0 _ _ _ D.res
        have r1 : (w3.setCell ⟨wb, 0, none⟩ (.slice (some ⟨g0, 0, none⟩) l0.length c3)).cell? ⟨w.heap.size, 1, none⟩ = some (.slice none 0 0) := cell_of_row _ _ 1 _ _ _ D.res
        have rf0 := frozen_of_row (w3.setCell ⟨wb, 0, none⟩ (.slice (some ⟨g0, 0, none⟩) l0.length c3)) w.heap.size 0 _ _ D.res
        have rf1 := frozen_of_row (w3.setCell ⟨wb, 0, none⟩ (.slice (some ⟨g0, 0, none⟩) l0.length c3)) w.heap.size 1 _ _ D.res
        obtain ⟨hn, hcA, hcn, hcm, hrow2⟩ := D.row.clip
        clear hn
        by_cases hL : 20000 < long
        · have hd : decide (20000 < long) = true := by simp [hL]
          obtain rfl : R = (⟨0, []⟩, 3) := by rw [HD, if_pos hL]
          clear HD hL
          go_wp2_with fail
          exact done_end D _ _ _ (RowO.nil _ _) rfl rfl rfl
        · have hd : decide (20000 < long) = false := by simp; omega
          by_cases h2 : 2000 < l0.length
          · have hd2 : decide ((2000 : Int) < (l0.length : Int)) = true := by simp; omega
            obtain rfl : R = (⟨0, []⟩, 2) := by rw [HD, if_neg hL, if_pos (by simpa using h2)]
            clear HD hL h2
            go_wp2_with fail
            exact done_end D _ _ _ (RowO.nil _ _) rfl rfl rfl
          · have hd2 : decide ((2000 : Int) < (l0.length : Int)) = false := by simp; omega
            obtain rfl : R = (⟨f, l0⟩, 0) := by rw [HD, if_neg hL, if_neg (by simpa using h2)]
            clear HD hL h2
            have hclip := clip_any (some ⟨g0, 0, none⟩) (l0.length) c3 hcA hcn hcm
            go_wp2_with (go_at_call 95; (with_reducible refine (hclip _).mono ?_); rintro e w5 ⟨rfl, rfl⟩)
            exact done_end D _ _ _ hrow2 rfl rfl rfl
      · have hab : ((x.attrs.length : Int) == 0) = false := by simp; exact hat
        have hT : trimL (l0 ++ [x]) = l0 ++ [x] := by unfold trimL; rw [hgl]; simp [hat]
        rw [hT] at HD
        have HK := Lib.hid hk1
        have HA := Lib.hid hat
        clear hk1 hat hT hgl
        have D : DonePre lo wb v w (w3) (some ⟨g0, 0, none⟩) (l0.length + 1) c3 (l0 ++ [x]) fg long := ⟨hm3, ho3.row, hres3, hcw⟩
        have r0 : (w3).cell? ⟨w.heap.size, 0, none⟩ = some (.int .i64 0) := cell_of_row _ _ 0 _ _ _ D.res
        have r1 : (w3).cell? ⟨w.heap.size, 1, none⟩ = some (.slice none 0 0) := cell_of_row _ _ 1 _ _ _ D.res
        have rf0 := frozen_of_row (w3) w.heap.size 0 _ _ D.res
        have rf1 := frozen_of_row (w3) w.heap.size 1 _ _ D.res
        obtain ⟨hn, hcA, hcn, hcm, hrow2⟩ := D.row.clip
        clear hn
        by_cases hL : 20000 < long
        · have hd : decide (20000 < long) = true := by simp [hL]
          obtain rfl : R = (⟨0, []⟩, 3) := by rw [HD, if_pos hL]
          clear HD hL
          go_wp2_with fail
          exact done_end D _ _ _ (RowO.nil _ _) rfl rfl rfl
        · have hd : decide (20000 < long) = false := by simp; omega
          by_cases h2 : 2000 < l0.length + 1
          · have hd2 : decide ((2000 : Int) < (l0.length : Int) + 1) = true := by simp; omega
            obtain rfl : R = (⟨0, []⟩, 2) := by rw [HD, if_neg hL, if_pos (by simpa using h2)]
            clear HD hL h2
            go_wp2_with fail
            exact done_end D _ _ _ (RowO.nil _ _) rfl rfl rfl
          · have hd2 : decide ((2000 : Int) < (l0.length : Int) + 1) = false := by simp; omega
            obtain rfl : R = (⟨f, l0 ++ [x]⟩, 0) := by rw [HD, if_neg hL, if_neg (by simpa using h2)]
            clear HD hL h2
            have hclip := clip_any (some ⟨g0, 0, none⟩) (l0.length + 1) c3 hcA hcn hcm
            go_wp2_with (go_at_call 95; (with_reducible refine (hclip _).mono ?_); rintro e w5 ⟨rfl, rfl⟩)
            exact done_end D _ _ _ hrow2 rfl rfl rfl
    · have hkb : (x.kind == 1) = false := by simp [hk1]
      have hT : trimL (l0 ++ [x]) = l0 ++ [x] := by unfold trimL; rw [hgl]; simp [hk1]
      rw [hT] at HD
      have HK := Lib.hid hk1
      clear hk1 hT hgl
      have D : DonePre lo wb v w (w3) (some ⟨g0, 0, none⟩) (l0.length + 1) c3 (l0 ++ [x]) fg long := ⟨hm3, ho3.row, hres3, hcw⟩
      have r0 : (w3).cell? ⟨w.heap.size, 0, none⟩ = some (.int .i64 0) := cell_of_row _ _ 0 _ _ _ D.res
      have r1 : (w3).cell? ⟨w.heap.size, 1, none⟩ = some (.slice none 0 0) := cell_of_row _ _ 1 _ _ _ D.res
      have rf0 := frozen_of_row (w3) w.heap.size 0 _ _ D.res
      have rf1 := frozen_of_row (w3) w.heap.size 1 _ _ D.res
      obtain ⟨hn, hcA, hcn, hcm, hrow2⟩ := D.row.clip
      clear hn
      by_cases hL : 20000 < long
      · have hd : decide (20000 < long) = true := by simp [hL]
        obtain rfl : R = (⟨0, []⟩, 3) := by rw [HD, if_pos hL]
        clear HD hL
        go_wp2_with fail
        exact done_end D _ _ _ (RowO.nil _ _) rfl rfl rfl
      · have hd : decide (20000 < long) = false := by simp; omega
        by_cases h2 : 2000 < l0.length + 1
        · have hd2 : decide ((2000 : Int) < (l0.length : Int) + 1) = true := by simp; omega
          obtain rfl : R = (⟨0, []⟩, 2) := by rw [HD, if_neg hL, if_pos (by simpa using h2)]
          clear HD hL h2
          go_wp2_with fail
          exact done_end D _ _ _ (RowO.nil _ _) rfl rfl rfl
        · have hd2 : decide ((2000 : Int) < (l0.length : Int) + 1) = false := by simp; omega
          obtain rfl : R = (⟨f, l0 ++ [x]⟩, 0) := by rw [HD, if_neg hL, if_neg (by simpa using h2)]
          clear HD hL h2
          have hclip := clip_any (some ⟨g0, 0, none⟩) (l0.length + 1) c3 hcA hcn hcm
          go_wp2_with (go_at_call 95; (with_reducible refine (hclip _).mono ?_); rintro e w5 ⟨rfl, rfl⟩)
          exact done_end D _ _ _ hrow2 rfl rfl rfl
end Go.Proofs.YtaemajcpgmaapaaDoor

namespace Go.Proofs.YtaemajcpgmaapaaDoor
open Go.RowKit

theorem OwnA.rdS {lo : Nat} {w : World} {v : Value} {l : List Attr} (h : OwnA lo w v l) : Rd KA (fun k => v.ownBlock = some k) w v l := by
  have h0 := h.rd
  obtain ⟨⟨h1, h2⟩, hf, hl⟩ := h
  rcases h2 with ⟨rfl, hz⟩ | ⟨g, cap, cur, rfl, hg, hh, hn, hm, hs, ht⟩
  · obtain rfl : l = [] := List.eq_nil_of_length_eq_zero (by assumption)
    exact Rd.nil _ _ _ _ _ (by simp)
  · obtain ⟨A, c, e, hA, hr⟩ := h0
    injection e with e1 e2 e3
    subst e1 e3
    refine ⟨_, _, rfl, hA, hr.1, fun k hk => ?_⟩
    obtain ⟨b, o, cs, e, hS, hb, hk1, hc⟩ := hr.2 k hk
    injection e with e
    injection e with e1 e2
    subst e1 e2
    exact ⟨_, _, cs, rfl, rfl, hb, hk1, hc⟩
theorem OwnA.block {lo : Nat} {w : World} {v : Value} {l : List Attr} (h : OwnA lo w v l) {k : Nat} (hk : v.ownBlock = some k) : ∃ cs, w.heap[k]? = some (.cells cs 102 (0, 0)) := by
  rcases h.1.2 with ⟨rfl, _⟩ | ⟨g, cap, cur, rfl, _, hh, _⟩
  · simp [Value.ownBlock] at hk
  · simp [Value.ownBlock] at hk; subst hk; exact ⟨_, hh⟩
theorem heap_ne {w : World} {j k T U : Nat} {cs ds : Array Value} {fr fs : Nat × Nat} (h : w.heap[j]? = some (.cells cs T fr)) (h' : w.heap[k]? = some (.cells ds U fs)) (hne : T ≠ U) : j ≠ k := by
  intro e
  subst e
  rw [h] at h'
  injection h' with h'
  injection h' with _ ht
  exact hne ht

theorem RowO.fits {lo : Nat} {w : World} {v : Value} {l : List Op} (h : RowO lo w v l) : ∀ x ∈ l, Fits x.text := by
  obtain ⟨ps, rfl, _, h2, _⟩ := h
  intro x hx
  obtain ⟨p, hp, rfl⟩ := List.mem_map.1 hx
  exact (h2 p hp).2

/-- What Follow holds between its rounds. -/
structure FInv (w wr : World) (xb yb wb : Nat) (vx vy vw : Value) (X Y : List Op) (s : List Op × Int) (long : Int) : Prop where
  below : Below w.heap.size w wr
  res : wr.heap[w.heap.size + 2]? = some (.cells #[.int .i64 0, .slice none 0 0] 24 (0, 0))
  hx : wr.heap[xb]? = some (.cells #[vx] 79 (0, 0))
  hy : wr.heap[yb]? = some (.cells #[vy] 79 (0, 0))
  hw : wr.heap[wb]? = some (.cells #[vw, .int .i64 s.2, .int .i64 long] 77 (0, 0))
  rx : RowO w.heap.size wr vx X
  ry : RowO w.heap.size wr vy Y
  ow : OwnO w.heap.size wr vw s.1
  lx : w.heap.size ≤ xb
  ly : w.heap.size ≤ yb
  lw : w.heap.size ≤ wb
  xy : xb ≠ yb
  nxy : ∀ k, vx.ownBlock = some k → vy.ownBlock ≠ some k
  nxw : ∀ k, vx.ownBlock = some k → vw.ownBlock ≠ some k
  nyw : ∀ k, vy.ownBlock = some k → vw.ownBlock ≠ some k
section
variable {w wr w' : World} {xb yb wb : Nat} {vx vy vw : Value} {X Y : List Op} {s : List Op × Int} {long : Int}
theorem FInv.size (h : FInv w wr xb yb wb vx vy vw X Y s long) : xb < wr.heap.size ∧ yb < wr.heap.size ∧ wb < wr.heap.size ∧ w.heap.size + 2 < wr.heap.size :=
  ⟨(Array.getElem?_eq_some_iff.1 h.hx).1, (Array.getElem?_eq_some_iff.1 h.hy).1, (Array.getElem?_eq_some_iff.1 h.hw).1, (Array.getElem?_eq_some_iff.1 h.res).1⟩
/-- Behind a call that lays blocks alone. -/
theorem FInv.far (h : FInv w wr xb yb wb vx vy vw X Y s long) (hb : Below wr.heap.size wr w') : FInv w w' xb yb wb vx vy vw X Y s long := by
  obtain ⟨z1, z2, z3, z4⟩ := h.size
  exact ⟨h.below.trans (hb.mono h.below.size), (hb.block _ z4).trans h.res, (hb.block _ z1).trans h.hx, (hb.block _ z2).trans h.hy, (hb.block _ z3).trans h.hw, h.rx.below hb, h.ry.below hb, h.ow.below hb, h.lx, h.ly, h.lw, h.xy, h.nxy, h.nxw, h.nyw⟩
/-- Behind a call that turns the first reader. -/
theorem FInv.turnX {vx' : Value} {X' : List Op} (h : FInv w wr xb yb wb vx vy vw X Y s long) (hc : Chg (fun k => k = xb ∨ vx.ownBlock = some k) wr w') (hx : w'.heap[xb]? = some (.cells #[vx'] 79 (0, 0))) (rx : RowO w.heap.size w' vx' X') (ho : vx'.ownBlock = vx.ownBlock) :
    FInv w w' xb yb wb vx' vy vw X' Y s long := by
  obtain ⟨z1, z2, z3, z4⟩ := h.size
  have hxo : ∀ k, vx.ownBlock = some k → ∃ cur, wr.heap[k]? = some (.cells cur 30 (0, 0)) := fun k hk => (h.rx.lt k hk).2.2
  have ne : ∀ {k T : Nat} {cs : Array Value} {fr : Nat × Nat}, wr.heap[k]? = some (.cells cs T fr) → k ≠ xb → T ≠ 30 → ¬ (k = xb ∨ vx.ownBlock = some k) := fun hk h1 hT e => by
    rcases e with e | e
    · exact h1 e
    · obtain ⟨_, hk'⟩ := hxo _ e
      exact heap_ne hk hk' hT rfl
  refine ⟨h.below.trans (hc.below h.below.size fun k hk => ?_), (hc.block _ z4 (ne h.res (heap_ne h.res h.hx (by decide)) (by decide))).trans h.res, hx, (hc.block _ z2 (ne h.hy (Ne.symm h.xy) (by decide))).trans h.hy, (hc.block _ z3 (ne h.hw (heap_ne h.hw h.hx (by decide)) (by decide))).trans h.hw, rx, h.ry.chg hc (fun k hk e => ?_) (fun k _ hk e => ?_), h.ow.chg hc (fun k hk e => ?_) (fun k _ hk e => ?_), h.lx, h.ly, h.lw, h.xy, fun k hk => h.nxy k (ho ▸ hk), fun k hk => h.nxw k (ho ▸ hk), h.nyw⟩
  · rcases hk with rfl | hk
    · exact h.lx
    · exact (h.rx.lt k hk).1
  · rcases e with rfl | e
    · obtain ⟨_, _, _, hk⟩ := h.ry.lt _ hk
      exact heap_ne hk h.hx (by decide) rfl
    · exact h.nxy k e hk
  · obtain ⟨_, _, hk⟩ := hk
    rcases e with rfl | e
    · exact heap_ne hk h.hx (by decide) rfl
    · obtain ⟨_, hk'⟩ := hxo _ e
      exact heap_ne hk hk' (by decide) rfl
  · rcases e with rfl | e
    · exact own_ne_blockO h.ow h.hx (by decide) _ hk rfl
    · exact h.nxw k e hk
  · obtain ⟨_, _, hk⟩ := hk
    rcases e with rfl | e
    · exact heap_ne hk h.hx (by decide) rfl
    · obtain ⟨_, hk'⟩ := hxo _ e
      exact heap_ne hk hk' (by decide) rfl
/-- The readers, the one for the other. -/
theorem FInv.swap (h : FInv w wr xb yb wb vx vy vw X Y s long) : FInv w wr yb xb wb vy vx vw Y X s long :=
  ⟨h.below, h.res, h.hy, h.hx, h.hw, h.ry, h.rx, h.ow, h.ly, h.lx, h.lw, Ne.symm h.xy, fun k hk e => h.nxy k e hk, h.nyw, h.nxw⟩
theorem FInv.turnY {vy' : Value} {Y' : List Op} (h : FInv w wr xb yb wb vx vy vw X Y s long) (hc : Chg (fun k => k = yb ∨ vy.ownBlock = some k) wr w') (hy : w'.heap[yb]? = some (.cells #[vy'] 79 (0, 0))) (ry : RowO w.heap.size w' vy' Y') (ho : vy'.ownBlock = vy.ownBlock) :
    FInv w w' xb yb wb vx vy' vw X Y' s long := (h.swap.turnX hc hy ry ho).swap
/-- Behind a method of the writer. -/
theorem FInv.write {s' : List Op × Int} {long' : Int} (h : FInv w wr xb yb wb vx vy vw X Y s long) (hp : WPost w.heap.size wb vw s' long' wr w') : ∃ vw', FInv w w' xb yb wb vx vy vw' X Y s' long' := by
  obtain ⟨z1, z2, z3, z4⟩ := h.size
  obtain ⟨vw', h1, h2, hc, h4⟩ := hp
  have ne : ∀ {k T : Nat} {cs : Array Value} {fr : Nat × Nat}, wr.heap[k]? = some (.cells cs T fr) → T ≠ 77 → T ≠ 30 → ¬ (k = wb ∨ vw.ownBlock = some k) := fun hk hn hT e => by
    rcases e with rfl | e
    · exact heap_ne hk h.hw hn rfl
    · exact own_ne_blockO h.ow hk hT _ e rfl
  have row : ∀ {v l}, RowO w.heap.size wr v l → (∀ k, v.ownBlock = some k → vw.ownBlock ≠ some k) → RowO w.heap.size w' v l := fun hr hn => hr.chg hc (fun k hk e => by
      rcases e with rfl | e
      · obtain ⟨_, _, _, hk⟩ := hr.lt _ hk
        exact heap_ne hk h.hw (by decide) rfl
      · exact hn k hk e) (fun k _ hk e => by
      obtain ⟨_, _, hk⟩ := hk
      exact ne hk (by decide) (by decide) e)
  have fresh : ∀ {v l}, RowO w.heap.size wr v l → (∀ k, v.ownBlock = some k → vw.ownBlock ≠ some k) → ∀ k, v.ownBlock = some k → vw'.ownBlock ≠ some k := fun hr hn k hk e => by
    rcases h4 with h4 | ⟨j, h4, hj⟩
    · rw [h4] at e; exact hn k hk e
    · rw [h4] at e
      injection e with e
      have := (hr.lt k hk).2.1
      omega
  refine ⟨vw', h.below.trans (hc.below h.below.size fun k hk => ?_), (hc.block _ z4 (ne h.res (by decide) (by decide))).trans h.res, (hc.block _ z1 (ne h.hx (by decide) (by decide))).trans h.hx, (hc.block _ z2 (ne h.hy (by decide) (by decide))).trans h.hy, h1, row h.rx h.nxw, row h.ry h.nyw, h2, h.lx, h.ly, h.lw, h.xy, h.nxy, fresh h.rx h.nxw, fresh h.ry h.nyw⟩
  rcases hk with rfl | hk
  · exact h.lw
  · exact (h.ow.lt k hk).1
/-- Attributes of the call's own lie where neither the writer nor its row does. -/
theorem FInv.apart {va : Value} {la : List Attr} {lo : Nat} (h : FInv w wr xb yb wb vx vy vw X Y s long) (ha : OwnA lo wr va la) : ∀ k, va.ownBlock = some k → k ≠ wb ∧ vw.ownBlock ≠ some k := fun k hk => by
  obtain ⟨cs, hk'⟩ := ha.block hk
  exact ⟨heap_ne hk' h.hw (by decide), fun e => own_ne_blockO h.ow hk' (by decide) _ e rfl⟩
end
end Go.Proofs.YtaemajcpgmaapaaDoor
