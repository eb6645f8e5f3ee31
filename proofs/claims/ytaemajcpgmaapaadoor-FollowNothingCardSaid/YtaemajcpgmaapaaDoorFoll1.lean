/- follow: the reader. -/
import Derived.Test.YtaemajcpgmaapaaDoorSame4
namespace Go.Proofs.YtaemajcpgmaapaaDoor
open Go.RowKit

set_option maxHeartbeats 2000000 in
theorem read_any (f : Int) (vo : Value) (l : List Op) (S : Nat → Prop) (w : World) (h : Rd KO S w vo l) (hT : Tabs w) :
    Calls Tryd.prog 72 #[.agg #[.int .i64 f, vo]] w fun e w' => ∃ rb v', e = .returned (.pointer (some ⟨rb, 0, none⟩)) ∧ Below w.heap.size w w' ∧ w.heap.size ≤ rb ∧
      w'.heap[rb]? = some (.cells #[v'] 79 (0, 0)) ∧ RowO w.heap.size w' v' (nmR ⟨f, l⟩).1.ops := by
  have cn := normal_ch f vo l S
  obtain ⟨A, c, rfl, hA, hr⟩ := h
  have hb0 : Below w.heap.size w (w.alloc (.cells #[.int .i64 f, .slice A l.length c] 24)) := (Below.refl _ _).alloc (Nat.le_refl _) _
  have cn1 := cn _ (Rd.below ⟨A, c, rfl, hA, hr⟩ hb0) (hT.below hb0)
  obtain ⟨nf, nl, er, HR⟩ : ∃ nf nl er, Hid (nmR ⟨f, l⟩ = (⟨nf, nl⟩, er)) := ⟨_, _, _, rfl⟩
  rw [HR.out] at cn1 ⊢
  have cn2 := Lib.hid cn1
  clear cn cn1
  go_enter Tryd.func72, Tryd.ntmps72
  go_wp2_with fail
  with_reducible refine cn2.out.mono ?_
  rintro e w1 ⟨v1, rfl, hb1, ho1⟩
  have hbw : Below w.heap.size w w1 := hb0.trans (hb1.mono hb0.size)
  have hrd := ho1.rd
  obtain ⟨A1, c1, rfl, hA1, hr1⟩ := hrd
  go_wp2_with fail
  go_ret
  have hba := ((Below.refl w1.heap.size w1).alloc (Nat.le_refl _) (.cells #[.int .i64 nf, .slice A1 nl.length c1] 24))
  refine ⟨w1.heap.size + 1, .slice A1 nl.length c1, rfl, ?_, ?_, ?_, ?_⟩
  · exact (hbw.alloc hbw.size _).alloc (hbw.alloc hbw.size _).size _
  · have := hbw.size; omega
  · simpa using heap_alloc_new (w1.alloc (.cells #[.int .i64 nf, .slice A1 nl.length c1] 24)) (.cells #[.slice A1 nl.length c1] 79)
  · exact (ho1.mono (by simp)).below (hba.alloc (by simp) _)

theorem ocells_cons (p : Op × Value) (ps : List (Op × Value)) : ocells (p :: ps) = [.int .i64 p.1.kind, .int .i64 p.1.n, .string p.1.text, p.2] ++ ocells ps := by simp [ocells]
theorem ocells_cons_at (p : Op × Value) (ps : List (Op × Value)) (j : Nat) : (ocells (p :: ps))[j + 4]? = (ocells ps)[j]? := by
  rw [ocells_cons, List.getElem?_append_right (by simp)]
  simp
/-- The first operation of a reader's row. -/
theorem RowO.head {lo : Nat} {w : World} {v : Value} {x : Op} {l : List Op} (h : RowO lo w v (x :: l)) :
    ∃ g off c vx A' c', v = .slice (some ⟨g, off, none⟩) (l.length + 1) c ∧ lo ≤ g ∧ g < w.heap.size ∧ l.length + 1 ≤ c ∧ OwnA lo w vx x.attrs ∧ Fits x.text ∧
      w.cell? ⟨g, off, none⟩ = some (.int .i64 x.kind) ∧ w.cell? ⟨g, off + 1, none⟩ = some (.int .i64 x.n) ∧ w.cell? ⟨g, off + 2, none⟩ = some (.string x.text) ∧ w.cell? ⟨g, off + 3, none⟩ = some vx ∧
      (∀ j, w.frozen? ⟨g, j, none⟩ = false) ∧
      (∀ W, (Instr.slice 22 (.slice (some ⟨g, off, none⟩) (l.length + 1) c) (some (.int .i64 1)) none none).run Tryd.prog W = .ok (.slice A' l.length c') W) ∧ (Value.slice A' l.length c').ownBlock = some g ∧ RowO lo w (.slice A' l.length c') l := by
  obtain ⟨ps, hps, h1, h2, h3⟩ := h
  cases ps with
  | nil => simp at hps
  | cons p ps =>
    simp only [List.map_cons, List.cons.injEq] at hps
    obtain ⟨hpx, hps⟩ := hps
    rcases h1 with ⟨_, h0⟩ | ⟨g, off, c, cur, rfl, hn, hm, hg, hh, hx⟩
    · cases h0
    · simp only [List.length_cons] at *
      have hp := h2 p (by simp)
      rw [hpx] at hp
      have hcell : ∀ j u, (ocells (p :: ps))[j]? = some u → w.cell? ⟨g, off + j, none⟩ = some u := fun j u hu => by
        rw [cell_of_row w g _ cur _ (0, 0) hh]; exact hx j u hu
      have hc0 := hcell 0 _ (by rw [ocells_cons]; rfl)
      have hc1 := hcell 1 _ (by rw [ocells_cons]; rfl)
      have hc2 := hcell 2 _ (by rw [ocells_cons]; rfl)
      have hc3 := hcell 3 _ (by rw [ocells_cons]; rfl)
      rw [hpx] at hc0 hc1 hc2
      have htl : l.length * 56 ≤ 140737488355328 := by omega
      by_cases h1 : c = 1
      · have hl : l = [] := List.eq_nil_of_length_eq_zero (by omega)
        have hpl : ps = [] := by rw [hl] at hps; simpa using hps
        subst hl hpl
        refine ⟨g, off, c, p.2, some ⟨g, off, none⟩, c - 1, rfl, hg, (Array.getElem?_eq_some_iff.1 hh).1, hn, hp.1, hp.2, hc0, hc1, hc2, hc3, fun j => frozen_of_row w g j cur _ hh, fun W => by simp [go_sem, h1], rfl, ?_⟩
        exact ⟨[], rfl, .inr ⟨g, off, c - 1, cur, rfl, by simp, by omega, hg, hh, by simp [ocells]⟩, by simp, by simp⟩
      · refine ⟨g, off, c, p.2, some ⟨g, off + 4, none⟩, c - 1, rfl, hg, (Array.getElem?_eq_some_iff.1 hh).1, hn, hp.1, hp.2, hc0, hc1, hc2, hc3, fun j => frozen_of_row w g j cur _ hh, fun W => by simp [go_sem, h1]; intro h; omega, rfl, ?_⟩
        refine ⟨ps, hps, .inr ⟨g, off + 4, c - 1, cur, rfl, by omega, by omega, hg, hh, fun j u hu => ?_⟩, fun q hq => h2 q (by simp [hq]), htl⟩
        have := hx (j + 4) u (by rw [ocells_cons_at]; exact hu)
        rw [show off + 4 + j = off + (j + 4) by omega]
        exact this
/-- .. of which so many runes are left. -/
theorem RowO.setN {lo : Nat} {w : World} {g off c : Nat} {x : Op} {l : List Op} (h : RowO lo w (.slice (some ⟨g, off, none⟩) (l.length + 1) c) (x :: l)) (n : Int) :
    RowO lo (w.setCell ⟨g, off + 1, none⟩ (.int .i64 n)) (.slice (some ⟨g, off, none⟩) (l.length + 1) c) (⟨x.kind, n, x.text, x.attrs⟩ :: l) := by
  have hlt := h.lt g rfl
  obtain ⟨ps, hps, h1, h2, h3⟩ := h
  cases ps with
  | nil => simp at hps
  | cons p ps =>
    simp only [List.map_cons, List.cons.injEq] at hps
    obtain ⟨hpx, hps⟩ := hps
    rcases h1 with ⟨_, h0⟩ | ⟨g', off', c', cur, h0, hn, hm, hg, hh, hx⟩
    · cases h0
    · simp only [List.length_cons, Value.slice.injEq, Option.some.injEq, Addr.mk.injEq, and_true, true_and] at *
      obtain ⟨⟨rfl, rfl⟩, rfl⟩ := h0
      have hc : Chg (fun k => k = g) w (w.setCell ⟨g, off + 1, none⟩ (.int .i64 n)) := (Chg.refl _ _).setCell _ fun _ => rfl
      have hat : ∀ va la, OwnA lo w va la → OwnA lo (w.setCell ⟨g, off + 1, none⟩ (.int .i64 n)) va la := fun va la ho => ho.chg hc fun k hk e => by
        rcases ho.1.2 with ⟨e1, _⟩ | ⟨g', cap, cur', e1, _, hh', _⟩
        · rw [e1] at hk; simp [Value.ownBlock] at hk
        · rw [e1] at hk; simp [Value.ownBlock] at hk; subst hk; subst e
          rw [hh] at hh'
          injection hh' with hh'
          injection hh' with _ ht
          exact absurd ht (by decide)
      refine ⟨(⟨x.kind, n, x.text, x.attrs⟩, p.2) :: ps, by simp [hps], .inr ⟨g, off, c, cur.setIfInBounds (off + 1) (.int .i64 n), by simp, by simpa using hn, hm, hg, heap_setCell_same w g (off + 1) cur _ _ hh, fun j u hu => ?_⟩, fun q hq => ?_, by simpa using h3⟩
      · rw [Array.getElem?_setIfInBounds]
        have hxx : ∀ i, i ≠ 1 → (ocells ((⟨x.kind, n, x.text, x.attrs⟩, p.2) :: ps))[i]? = (ocells (p :: ps))[i]? := fun i hi => by
          rw [ocells_cons, ocells_cons]
          match i with
          | 0 => simp [hpx]
          | 1 => exact absurd rfl hi
          | 2 => simp [hpx]
          | 3 => simp
          | i + 4 => rw [List.getElem?_append_right (by simp), List.getElem?_append_right (by simp)]; simp
        by_cases hj : j = 1
        · subst hj
          have hu1 : u = .int .i64 n := by rw [ocells_cons] at hu; simpa using hu.symm
          have hb : off + 1 < cur.size := (Array.getElem?_eq_some_iff.1 (hx 1 _ (by rw [ocells_cons]; rfl))).1
          simp [hb, hu1]
        · rw [if_neg (by omega)]
          exact hx j u (by rw [← hxx j hj]; exact hu)
      · rcases List.mem_cons.1 hq with rfl | hq
        · have := h2 p (by simp)
          rw [hpx] at this
          exact ⟨hat _ _ this.1, this.2⟩
        · have := h2 q (by simp [hq])
          exact ⟨hat _ _ this.1, this.2⟩
end Go.Proofs.YtaemajcpgmaapaaDoor
