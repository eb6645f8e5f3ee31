/- compose: drop and take. | compose: take. | compose: meet. | compose.Compose: what its loop holds; how a round's calls turn it. | compose.Compose: a round's calls, each as a turn of what the loop holds. -/
import Derived.Test.YtaemajcpgmaapaaDoorPkK
import Derived.Deep.RegionHeld3
import Derived.Test.YtaemajcpgmaapaaDoorPkH
import Derived.Test.YtaemajcpgmaapaaDoorPkI
import Derived.Test.YtaemajcpgmaapaaDoorPkJ
namespace Go.Proofs.YtaemajcpgmaapaaDoor
open Go.RowKit

/-- Where the first operation is written anew: the row that begins with the new one. -/
theorem RowO.setO {lo : Nat} {w : World} {g off c : Nat} {x y : Op} {l : List Op} {vy : Value} (h : RowO lo w (.slice (some ⟨g, off, none⟩) (l.length + 1) c) (x :: l)) (hy : OwnA lo w vy y.attrs) (hf : Fits y.text) :
    RowO lo ((((w.setCell ⟨g, off, none⟩ (.int .i64 y.kind)).setCell ⟨g, off + 1, none⟩ (.int .i64 y.n)).setCell ⟨g, off + 2, none⟩ (.string y.text)).setCell ⟨g, off + 3, none⟩ vy) (.slice (some ⟨g, off, none⟩) (l.length + 1) c) (y :: l) := by
  obtain ⟨ps, hps, h1, h2, h3⟩ := h
  cases ps with
  | nil => simp at hps
  | cons p ps =>
    simp only [List.map_cons, List.cons.injEq] at hps
    obtain ⟨hpx, hps⟩ := hps
    rcases h1 with ⟨_, h0⟩ | ⟨g', off', c', cur, h0, hn, hm, hg, hh, hx⟩
    · cases h0
    · simp only [List.length_cons, Value.slice.injEq, Option.some.injEq, Addr.mk.injEq, and_true, true_and] at *
      obtain ⟨⟨rfl, rfl⟩, rfl⟩ := h0
      generalize hW : (((w.setCell ⟨g, off, none⟩ (.int .i64 y.kind)).setCell ⟨g, off + 1, none⟩ (.int .i64 y.n)).setCell ⟨g, off + 2, none⟩ (.string y.text)).setCell ⟨g, off + 3, none⟩ vy = W
      have hc : Chg (fun k => k = g) w W := by
        rw [← hW]
        exact ((((Chg.refl (fun k => k = g) w).setCell (p := ⟨g, off, none⟩) _ fun _ => rfl).setCell (p := ⟨g, off + 1, none⟩) _ fun _ => rfl).setCell (p := ⟨g, off + 2, none⟩) _ fun _ => rfl).setCell (p := ⟨g, off + 3, none⟩) _ fun _ => rfl
      have hat : ∀ va la, OwnA lo w va la → OwnA lo W va la := fun va la ho => ho.off hh (by decide) hc
      have hH : W.heap[g]? = some (.cells ((((cur.setIfInBounds off (.int .i64 y.kind)).setIfInBounds (off + 1) (.int .i64 y.n)).setIfInBounds (off + 2) (.string y.text)).setIfInBounds (off + 3) vy) 30 (0, 0)) := by
        rw [← hW]
        exact heap_setCell_same _ g (off + 3) _ _ _ (heap_setCell_same _ g (off + 2) _ _ _ (heap_setCell_same _ g (off + 1) _ _ _ (heap_setCell_same w g off _ _ _ hh)))
      have hb : off + 3 < cur.size := (Array.getElem?_eq_some_iff.1 (hx 3 _ (by rw [ocells_cons]; rfl))).1
      refine ⟨(y, vy) :: ps, by simp [hps], .inr ⟨g, off, c, _, rfl, by simpa using hn, hm, hg, hH, fun j u hu => ?_⟩, fun q hq => ?_, by simpa using h3⟩
      · rw [ocells_cons] at hu
        simp only [Array.getElem?_setIfInBounds, Array.size_setIfInBounds]
        match j, hu with
        | 0, hu => simp at hu; subst hu; simp; omega
        | 1, hu => simp at hu; subst hu; simp; omega
        | 2, hu => simp at hu; subst hu; simp; omega
        | 3, hu => simp at hu; subst hu; simp; omega
        | j + 4, hu =>
          rw [List.getElem?_append_right (by simp)] at hu
          rw [if_neg (by omega), if_neg (by omega), if_neg (by omega), if_neg (by omega)]
          exact hx (j + 4) u (by rw [ocells_cons, List.getElem?_append_right (by simp)]; exact hu)
      · rcases List.mem_cons.1 hq with rfl | hq
        · exact ⟨hat _ _ hy, hf⟩
        · have := h2 q (by simp [hq])
          exact ⟨hat _ _ this.1, this.2⟩

set_option maxRecDepth 100000 in
set_option maxHeartbeats 4000000 in
theorem drop_any (rb lo : Nat) (v : Value) (l : List Op) (w : World) (hrb : w.heap[rb]? = some (.cells (rowCells v) 130 (0, 0))) (h : RowO lo w v l) :
    Calls Tryd.prog 121 #[.pointer (some ⟨rb, 0, none⟩), .func (.func 122) #[] #[]] w fun e w' => e = .returned (.tuple #[]) ∧ ∃ v', w'.heap[rb]? = some (.cells (rowCells v') 130 (0, 0)) ∧ RowO lo w' v' (dropC l) ∧
      Chg (fun k => k = rb) w w' ∧ v'.ownBlock = v.ownBlock := by
  have cU := used_any
  unfold opV at cU
  go_enter Tryd.func121, Tryd.ntmps121
  go_wp2_with fail
  go_loopg [] (l.length + 1) (fun g wr => ∃ (l' : List Op) (v' : Value), l'.length < g ∧ wr.heap[rb]? = some (.cells (rowCells v') 130 (0, 0)) ∧ RowO lo wr v' l' ∧ Chg (fun k => k = rb) w wr ∧ v'.ownBlock = v.ownBlock ∧ Hid (dropC l' = dropC l))
  case atStart => exact ⟨l, v, by omega, hrb, h, Chg.refl _ _, rfl, rfl⟩
  case round =>
    obtain ⟨l', v', hg, hrb', h', hch, hob, HD⟩ := hrel
    have c0 : wr.cell? ⟨rb, 0, none⟩ = some v' := cell_of_row _ _ 0 _ _ _ hrb'
    have hrbw : rb < wr.heap.size := (Array.getElem?_eq_some_iff.1 hrb').1
    cases l' with
    | nil =>
      have hc := h'.rd
      obtain ⟨A, c, rfl, _, _⟩ := hc
      simp only [List.length_nil] at *
      go_wp2_with fail
      refine bodyPost_end (results_none rfl _ _ _) rfl ⟨rfl, .slice A 0 c, hrb', ?_, hch, hob⟩
      rw [← HD.out]
      exact h'
    | cons x l' =>
      obtain ⟨g, off, c, vx, A', c', rfl, hgl, hgw, hn, hox, hfx, d0, d1, d2, d3, hfz, hsl, hob2, hrow⟩ := h'.head
      obtain ⟨A4, c4, rfl, hA4, hr4⟩ := hox.rd
      have hq1 : decide (0 < (l'.length : Int) + 1) = true := by simp
      have kU := cU x A4 x.attrs.length c4 wr
      have HROW := Lib.hid hrow
      have HRB := Lib.hid hrb'
      cases hu : usedC x with
      | true =>
        have HD2 : Hid (dropC l' = dropC l) := by rw [Hid, ← HD.out, dropC, if_pos hu]
        rw [hu] at kU
        clear hu HD hrow hrb' h' hr4 hox
        go_wp2_with fail
        with_reducible refine kU.mono ?_
        rintro e w2 ⟨rfl, hb2⟩
        have hrb2 := (hb2.block _ hrbw).trans HRB.out
        have k0 : w2.cell? ⟨rb, 0, none⟩ = some (.slice (some ⟨g, off, none⟩) (l'.length + 1) c) := cell_of_row _ _ 0 _ _ _ hrb2
        have kz : w2.frozen? ⟨rb, 0, none⟩ = false := frozen_of_row _ _ 0 _ _ hrb2
        have HRB2 := Lib.hid hrb2
        have HRW2 := Lib.hid (HROW.out.below hb2)
        have HCH := Lib.hid (hch.trans (Chg.of_below hb2 (fun k => k = rb)) fun k _ e => e)
        clear hrb2 hch hb2 kU c0 hrbw
        go_wp2_with fail
        go_roundg (l'.length + 1)
        case measure => simp only [List.length_cons] at hg; omega
        case rel =>
          have q1 : Chg (fun k => k = rb) w2 (w2.setCell ⟨rb, 0, none⟩ (.slice A' l'.length c')) := (Chg.refl _ _).setCell _ fun _ => rfl
          exact ⟨l', _, by omega, heap_setCell_same w2 rb 0 _ _ _ HRB2.out, HRW2.out.off HRB2.out (by decide) (by decide) q1, HCH.out.trans q1 fun k _ e => e, hob2.trans hob, HD2⟩
      | false =>
        have HD2 : Hid (x :: l' = dropC l) := by rw [Hid, ← HD.out, dropC, hu, if_neg (by simp)]
        rw [hu] at kU
        have HH := Lib.hid h'
        clear hu HD hrow hrb' h' hr4 hox
        go_wp2_with fail
        with_reducible refine kU.mono ?_
        rintro e w2 ⟨rfl, hb2⟩
        go_wp2_with fail
        refine bodyPost_end (results_none rfl _ _ _) rfl ⟨rfl, _, (hb2.block _ hrbw).trans HRB.out, ?_, hch.trans (Chg.of_below hb2 (fun k => k = rb)) fun k _ e => e, hob⟩
        rw [← HD2.out]
        exact HH.out.below hb2
end Go.Proofs.YtaemajcpgmaapaaDoor

namespace Go.Proofs.YtaemajcpgmaapaaDoor
open Go.RowKit

theorem bAlloc {w a : World} (h : Below w.heap.size w a) (o : Obj) : Below w.heap.size w (a.alloc o) := h.alloc h.size o
theorem bTrans {w a b : World} (h : Below a.heap.size a b) (k : Below w.heap.size w a) : Below w.heap.size w b := k.trans (h.mono k.size)
theorem bSet {w a : World} (h : Below w.heap.size w a) {B j : Nat} (hB : w.heap.size ≤ B) (u : Value) : Below w.heap.size w (a.setCell ⟨B, j, none⟩ u) := h.setCell (p := ⟨B, j, none⟩) hB u
theorem gen_world {F : World → Prop} (a : World) (h : ∀ W, W = a → F W) : F a := h a rfl
theorem four {V : World} {B : Nat} {z0 z1 z2 z3 : Value} (h : V.heap[B]? = some (.cells #[z0, z1, z2, z3] 30 (0, 0))) (u0 u1 u2 u3 : Value) :
    ((((V.setCell ⟨B, 0, none⟩ u0).setCell ⟨B, 1, none⟩ u1).setCell ⟨B, 2, none⟩ u2).setCell ⟨B, 3, none⟩ u3).heap[B]? = some (.cells #[u0, u1, u2, u3] 30 (0, 0)) :=
  heap_setCell_same _ B 3 _ _ _ (heap_setCell_same _ B 2 _ _ _ (heap_setCell_same _ B 1 _ _ _ (heap_setCell_same V B 0 _ _ _ h)))
theorem fourO {V : World} {B B' : Nat} (h : B' ≠ B) (u0 u1 u2 u3 : Value) :
    ((((V.setCell ⟨B, 0, none⟩ u0).setCell ⟨B, 1, none⟩ u1).setCell ⟨B, 2, none⟩ u2).setCell ⟨B, 3, none⟩ u3).heap[B']? = V.heap[B']? :=
  (Below.heap_setCell _ _ _ _ h).trans ((Below.heap_setCell _ _ _ _ h).trans ((Below.heap_setCell _ _ _ _ h).trans (Below.heap_setCell _ _ _ _ h)))
theorem four_size {V : World} {B : Nat} (u0 u1 u2 u3 : Value) :
    ((((V.setCell ⟨B, 0, none⟩ u0).setCell ⟨B, 1, none⟩ u1).setCell ⟨B, 2, none⟩ u2).setCell ⟨B, 3, none⟩ u3).heap.size = V.heap.size := by simp [World.setCell]
theorem allocS {V : World} {n : Nat} (h : V.heap.size = n) (o : Obj) : (V.alloc o).heap[n]? = some o := h ▸ heap_alloc_new V o
theorem allocO {V : World} {B : Nat} {x : Obj} (h : V.heap[B]? = some x) (o : Obj) : (V.alloc o).heap[B]? = some x := (Below.heap_alloc V o B (Array.getElem?_eq_some_iff.1 h).1).trans h
theorem zOne {w w3 : World} (hb : Below ((w.alloc (.cells #[.int .i64 0, .int .i64 0, .string ⟨#[]⟩, .slice none 0 0] 30)).alloc (.cells #[.int .i64 0, .int .i64 0, .string ⟨#[]⟩, .slice none 0 0] 30)).drew.heap.size ((w.alloc (.cells #[.int .i64 0, .int .i64 0, .string ⟨#[]⟩, .slice none 0 0] 30)).alloc (.cells #[.int .i64 0, .int .i64 0, .string ⟨#[]⟩, .slice none 0 0] 30)).drew w3) : w3.heap[w.heap.size + 1]? = some (.cells #[.int .i64 0, .int .i64 0, .string ⟨#[]⟩, .slice none 0 0] 30 (0, 0)) := by
  refine (hb.block _ (by show _ < ((w.alloc (.cells #[.int .i64 0, .int .i64 0, .string ⟨#[]⟩, .slice none 0 0] 30)).alloc (.cells #[.int .i64 0, .int .i64 0, .string ⟨#[]⟩, .slice none 0 0] 30)).heap.size; simp)).trans ?_
  have := heap_alloc_new (w.alloc (.cells #[.int .i64 0, .int .i64 0, .string ⟨#[]⟩, .slice none 0 0] 30)) (.cells #[.int .i64 0, .int .i64 0, .string ⟨#[]⟩, .slice none 0 0] 30)
  simp only [World.size_alloc] at this
  exact this
theorem zTwo {w w3 : World} (hb : Below (((w.alloc (.cells #[.int .i64 0, .int .i64 0, .string ⟨#[]⟩, .slice none 0 0] 30)).alloc (.cells #[.int .i64 0, .int .i64 0, .string ⟨#[]⟩, .slice none 0 0] 30)).alloc (.cells #[.int .i64 0, .int .i64 0, .string ⟨#[]⟩, .slice none 0 0] 30)).drew.heap.size (((w.alloc (.cells #[.int .i64 0, .int .i64 0, .string ⟨#[]⟩, .slice none 0 0] 30)).alloc (.cells #[.int .i64 0, .int .i64 0, .string ⟨#[]⟩, .slice none 0 0] 30)).alloc (.cells #[.int .i64 0, .int .i64 0, .string ⟨#[]⟩, .slice none 0 0] 30)).drew w3) : w3.heap[w.heap.size + 1]? = some (.cells #[.int .i64 0, .int .i64 0, .string ⟨#[]⟩, .slice none 0 0] 30 (0, 0)) ∧ w3.heap[w.heap.size + 1 + 1]? = some (.cells #[.int .i64 0, .int .i64 0, .string ⟨#[]⟩, .slice none 0 0] 30 (0, 0)) := by
  have e1 := heap_alloc_new (w.alloc (.cells #[.int .i64 0, .int .i64 0, .string ⟨#[]⟩, .slice none 0 0] 30)) (.cells #[.int .i64 0, .int .i64 0, .string ⟨#[]⟩, .slice none 0 0] 30)
  have e2 := heap_alloc_new ((w.alloc (.cells #[.int .i64 0, .int .i64 0, .string ⟨#[]⟩, .slice none 0 0] 30)).alloc (.cells #[.int .i64 0, .int .i64 0, .string ⟨#[]⟩, .slice none 0 0] 30)) (.cells #[.int .i64 0, .int .i64 0, .string ⟨#[]⟩, .slice none 0 0] 30)
  simp only [World.size_alloc] at e1 e2
  exact ⟨(hb.block _ (by show _ < (((w.alloc (.cells #[.int .i64 0, .int .i64 0, .string ⟨#[]⟩, .slice none 0 0] 30)).alloc (.cells #[.int .i64 0, .int .i64 0, .string ⟨#[]⟩, .slice none 0 0] 30)).alloc (.cells #[.int .i64 0, .int .i64 0, .string ⟨#[]⟩, .slice none 0 0] 30)).heap.size; simp <;> omega)).trans ((Below.heap_alloc _ _ _ (by simp)).trans e1), (hb.block _ (by show _ < (((w.alloc (.cells #[.int .i64 0, .int .i64 0, .string ⟨#[]⟩, .slice none 0 0] 30)).alloc (.cells #[.int .i64 0, .int .i64 0, .string ⟨#[]⟩, .slice none 0 0] 30)).alloc (.cells #[.int .i64 0, .int .i64 0, .string ⟨#[]⟩, .slice none 0 0] 30)).heap.size; simp)).trans e2⟩

theorem splitC_fits {o : Op} (h : Fits o.text) (n : Int) : Fits (splitC o n).1.text ∧ Fits (splitC o n).2.text :=
  ⟨Nat.le_trans (splitC_size o n).1 h, Nat.le_trans (splitC_size o n).2 h⟩
theorem b4 {w a : World} (h : Below w.heap.size w a) {B : Nat} (hB : w.heap.size ≤ B) (u0 u1 u2 u3 : Value) :
    Below w.heap.size w ((((a.setCell ⟨B, 0, none⟩ u0).setCell ⟨B, 1, none⟩ u1).setCell ⟨B, 2, none⟩ u2).setCell ⟨B, 3, none⟩ u3) :=
  (((h.setCell (p := ⟨B, 0, none⟩) hB u0).setCell (p := ⟨B, 1, none⟩) hB u1).setCell (p := ⟨B, 2, none⟩) hB u2).setCell (p := ⟨B, 3, none⟩) hB u3

theorem take_end {w W : World} {rb g off c c4 lo : Nat} {A4 : Option Addr} {x : Op} {l : List Op} (hB : Below w.heap.size w W) (hrb : w.heap[rb]? = some (.cells (rowCells (.slice (some ⟨g, off, none⟩) (l.length + 1) c)) 130 (0, 0)))
    (hh : RowO lo w (.slice (some ⟨g, off, none⟩) (l.length + 1) c) (x :: l)) (hox : OwnA lo w (.slice A4 x.attrs.length c4) x.attrs)
    (hres : W.heap[w.heap.size]? = some (.cells #[.int .i64 0, .int .i64 0, .string ⟨#[]⟩, .slice none 0 0] 30 (0, 0))) {k1 n1 k2 n2 n : Int} {t1 t2 : ByteArray} (f1 : Fits t1) (f2 : Fits t2)
    (HT : Hid (takeC n (x :: l) = (⟨k1, n1, t1, x.attrs⟩, ⟨k2, n2, t2, x.attrs⟩ :: l))) (a : Act) (h4 : a.tmps[4]?.getD undef = .pointer (some ⟨w.heap.size, 0, none⟩)) (hd : a.defers = []) :
    bodyPost Tryd.prog Tryd.f118 (fun e w' => ∃ va, e = .returned (opV (takeC n (x :: l)).1 va) ∧ w'.heap[rb]? = some (.cells (rowCells (.slice (some ⟨g, off, none⟩) (l.length + 1) c)) 130 (0, 0)) ∧
      RowO lo w' (.slice (some ⟨g, off, none⟩) (l.length + 1) c) (takeC n (x :: l)).2 ∧ OwnA lo w' va (takeC n (x :: l)).1.attrs ∧ Fits (takeC n (x :: l)).1.text ∧ Chg (fun k => (Value.slice (some ⟨g, off, none⟩) (l.length + 1) c).ownBlock = some k) w w') .ret a
      ((((((((W.setCell ⟨g, off, none⟩ (.int .i64 k2)).setCell ⟨g, off + 1, none⟩ (.int .i64 n2)).setCell ⟨g, off + 2, none⟩ (.string t2)).setCell ⟨g, off + 3, none⟩ (.slice A4 x.attrs.length c4)).setCell ⟨w.heap.size, 0, none⟩ (.int .i64 k1)).setCell ⟨w.heap.size, 1, none⟩ (.int .i64 n1)).setCell ⟨w.heap.size, 2, none⟩ (.string t1)).setCell ⟨w.heap.size, 3, none⟩ (.slice A4 x.attrs.length c4)).drew := by
  rw [HT.out]
  obtain ⟨_, hgw, cur, hcur⟩ := hh.lt g rfl
  have hrbw : rb < w.heap.size := (Array.getElem?_eq_some_iff.1 hrb).1
  have hgrb : rb ≠ g := by
    intro e
    subst e
    rw [hrb] at hcur
    injection hcur with hcur
    injection hcur with _ ht
    exact absurd ht (by decide)
  have hW1 := hh.below hB
  have hox1 := hox.below hB
  have hrb1 := (hB.block rb hrbw).trans hrb
  have hV := RowO.setO (y := ⟨k2, n2, t2, x.attrs⟩) hW1 hox1 f2
  dsimp only at hV
  obtain ⟨V, eV⟩ : ∃ V, (((W.setCell ⟨g, off, none⟩ (.int .i64 k2)).setCell ⟨g, off + 1, none⟩ (.int .i64 n2)).setCell ⟨g, off + 2, none⟩ (.string t2)).setCell ⟨g, off + 3, none⟩ (.slice A4 x.attrs.length c4) = V := ⟨_, rfl⟩
  have hc : Chg (fun k => k = g) W V := by
    rw [← eV]
    exact ((((Chg.refl (fun k => k = g) W).setCell (p := ⟨g, off, none⟩) _ fun _ => rfl).setCell (p := ⟨g, off + 1, none⟩) _ fun _ => rfl).setCell (p := ⟨g, off + 2, none⟩) _ fun _ => rfl).setCell (p := ⟨g, off + 3, none⟩) _ fun _ => rfl
  rw [eV] at hV ⊢
  clear eV
  have hs1 : w.heap.size < W.heap.size := (Array.getElem?_eq_some_iff.1 hres).1
  have hres2 := (hc.block w.heap.size hs1 (by omega)).trans hres
  have hox2 : OwnA lo V (.slice A4 x.attrs.length c4) x.attrs := hox1.off ((hB.block g hgw).trans hcur) (by decide) hc
  have hrb2 := (hc.block rb (Array.getElem?_eq_some_iff.1 hrb1).1 hgrb).trans hrb1
  obtain ⟨U, eU⟩ : ∃ U, ((((V.setCell ⟨w.heap.size, 0, none⟩ (.int .i64 k1)).setCell ⟨w.heap.size, 1, none⟩ (.int .i64 n1)).setCell ⟨w.heap.size, 2, none⟩ (.string t1)).setCell ⟨w.heap.size, 3, none⟩ (.slice A4 x.attrs.length c4)).drew = U := ⟨_, rfl⟩
  have hcU : Chg (fun k => k = w.heap.size) V U := by
    rw [← eU]
    exact (((((Chg.refl (fun k => k = w.heap.size) V).setCell (p := ⟨w.heap.size, 0, none⟩) _ fun _ => rfl).setCell (p := ⟨w.heap.size, 1, none⟩) _ fun _ => rfl).setCell (p := ⟨w.heap.size, 2, none⟩) _ fun _ => rfl).setCell (p := ⟨w.heap.size, 3, none⟩) _ fun _ => rfl).drew
  have z0 : V.cell? ⟨w.heap.size, 0, none⟩ = some (.int .i64 0) := cell_of_row _ _ 0 _ _ _ hres2
  have z1 : V.cell? ⟨w.heap.size, 1, none⟩ = some (.int .i64 0) := cell_of_row _ _ 1 _ _ _ hres2
  have z2 : V.cell? ⟨w.heap.size, 2, none⟩ = some (.string ⟨#[]⟩) := cell_of_row _ _ 2 _ _ _ hres2
  have z3 : V.cell? ⟨w.heap.size, 3, none⟩ = some (.slice none 0 0) := cell_of_row _ _ 3 _ _ _ hres2
  refine bodyPost_ret (v := .agg #[.int .i64 k1, .int .i64 n1, .string t1, .slice A4 x.attrs.length c4]) (by simp [results, Tryd.results118, go_sem, h4, z0, z1, z2, z3]) hd ?_
  rw [eU]
  refine ⟨.slice A4 x.attrs.length c4, rfl, (hcU.block rb (Array.getElem?_eq_some_iff.1 hrb2).1 (by omega)).trans hrb2, ?_, ?_, f1, ?_⟩
  · refine hV.chg hcU (fun k hk e => ?_) (fun k _ hk e => ?_)
    · simp [Value.ownBlock] at hk
      omega
    · obtain ⟨_, _, hk⟩ := hk
      subst e
      rw [hres2] at hk
      injection hk with hk
      injection hk with _ ht
      exact absurd ht (by decide)
  · exact hox2.off hres2 (by decide) hcU
  · exact ((Chg.of_below hB _).trans hc fun k _ e => by subst e; simp [Value.ownBlock]).trans hcU fun k hk e => by omega

set_option maxRecDepth 100000 in
set_option maxHeartbeats 40000000 in
theorem takeC_any (rb lo : Nat) (v : Value) (l : List Op) (n : Int) (w : World) (hrb : w.heap[rb]? = some (.cells (rowCells v) 130 (0, 0))) (h : RowO lo w v l) (hn : n ≤ 4611686018427387904) (hT : Tabs w) :
    Calls Tryd.prog 118 #[.pointer (some ⟨rb, 0, none⟩), .int .i64 n] w fun e w' => ∃ va, e = .returned (opV (takeC n l).1 va) ∧ w'.heap[rb]? = some (.cells (rowCells v) 130 (0, 0)) ∧
      RowO lo w' v (takeC n l).2 ∧ OwnA lo w' va (takeC n l).1.attrs ∧ Fits (takeC n l).1.text ∧ Chg (fun k => v.ownBlock = some k) w w' := by
  have c0 : w.cell? ⟨rb, 0, none⟩ = some v := cell_of_row _ _ 0 _ _ _ hrb
  have c1 : w.cell? ⟨rb, 1, none⟩ = some (.int .i64 1) := cell_of_row _ _ 1 _ _ _ hrb
  have c2 : w.cell? ⟨rb, 2, none⟩ = some (.int .i64 20001) := cell_of_row _ _ 2 _ _ _ hrb
  have c3 : w.cell? ⟨rb, 3, none⟩ = some (.string ⟨#[]⟩) := cell_of_row _ _ 3 _ _ _ hrb
  have c4 : w.cell? ⟨rb, 4, none⟩ = some (.slice none 0 0) := cell_of_row _ _ 4 _ _ _ hrb
  have c5 : w.cell? ⟨rb, 5, none⟩ = some (.func (.func 159) #[] #[]) := cell_of_row _ _ 5 _ _ _ hrb
  have hrbw : rb < w.heap.size := (Array.getElem?_eq_some_iff.1 hrb).1
  have hrn : rb ≠ w.heap.size := by omega
  cases l with
  | nil =>
    have hc := h.rd
    obtain ⟨A, c, rfl, _, _⟩ := hc
    simp only [List.length_nil] at *
    have HI : Hid (takeC n [] = (⟨1, 20001, ⟨#[]⟩, []⟩, [])) := rfl
    go_enter Tryd.func118, Tryd.ntmps118
    go_wp2_with fail
    rw [HI.out]
    have hb : ∀ o, Below w.heap.size w (w.alloc o) := fun o => (Below.refl _ _).alloc (Nat.le_refl _) o
    exact bodyPost_ret (v := .agg #[.int .i64 1, .int .i64 20001, .string ⟨#[]⟩, .slice none 0 0]) (by simp [results, Tryd.results118, go_sem]) rfl ⟨_, rfl, ((hb _).block rb hrbw).trans hrb, h.below (hb _), OwnA.nil _ _, show (0 : Nat) ≤ _ by omega, Chg.of_below (hb _) _⟩
  | cons x l =>
    obtain ⟨g, off, c, vx, A', c', rfl, hg, hgw, hm, hox, hfx, d0, d1, d2, d3, hfz, hsl, hob, hrow⟩ := h.head
    obtain ⟨A4, c4', rfl, hA4, hr4⟩ := hox.rd
    have hq1 : ((l.length : Int) + 1 == 0) = false := by rw [beq_eq_false_iff_ne]; omega
    have hgn : g ≠ w.heap.size := by omega
    have HT : Hid (takeC n (x :: l) = ((splitC x n).1, (splitC x n).2 :: l)) := rfl
    have cS := fun W h => split_any x A4 x.attrs.length c4' n W hn hfx h
    have hfs := splitC_fits hfx n
    have hat := splitC_attrs x n
    obtain ⟨p, q, HP⟩ : ∃ p q, Hid (splitC x n = (p, q)) := ⟨_, _, rfl⟩
    simp only [HP.out] at cS
    rw [HP.out] at HT hfs hat
    clear HP
    obtain ⟨k1, n1, t1, a1⟩ := p
    obtain ⟨k2, n2, t2, a2⟩ := q
    obtain ⟨rfl, rfl⟩ := hat
    unfold opV at cS
    dsimp only at cS
    have hSS : ∀ W, Below w.heap.size w W → W.cell? ⟨rb, 0, none⟩ = some (.slice (some ⟨g, off, none⟩) (l.length + 1) c) ∧ W.cell? ⟨rb, 5, none⟩ = some (.func (.func 159) #[] #[]) ∧ W.cell? ⟨g, off, none⟩ = some (.int .i64 x.kind) ∧ W.cell? ⟨g, off + 1, none⟩ = some (.int .i64 x.n) ∧
        W.cell? ⟨g, off + 2, none⟩ = some (.string x.text) ∧ W.cell? ⟨g, off + 3, none⟩ = some (.slice A4 x.attrs.length c4') ∧ Below w.heap.size w W := fun W hB =>
      ⟨(hB.cell (p := ⟨rb, 0, none⟩) hrbw).trans c0, (hB.cell (p := ⟨rb, 5, none⟩) hrbw).trans c5, (hB.cell (p := ⟨g, off, none⟩) hgw).trans d0, (hB.cell (p := ⟨g, off + 1, none⟩) hgw).trans d1, (hB.cell (p := ⟨g, off + 2, none⟩) hgw).trans d2, (hB.cell (p := ⟨g, off + 3, none⟩) hgw).trans d3, hB⟩
    obtain ⟨_, _, cur, hcur⟩ := h.lt g rfl
    have HCUR := Lib.hid hcur
    have HH := Lib.hid h
    have HX := Lib.hid hox
    clear hcur h hox
    have hw0 : w.heap.size ≤ w.heap.size + 1 := Nat.le_succ _
    have hw1 : w.heap.size ≤ w.heap.size + 1 + 1 := Nat.le_succ_of_le hw0
    have hB0 : ∀ o, Below w.heap.size w (w.alloc o) := fun o => (Below.refl _ _).alloc (Nat.le_refl _) o
    go_enter Tryd.func118, Tryd.ntmps118
    go_wp2_with fail
    go_region_held3 (fun w' => w'.cell? ⟨rb, 0, none⟩ = some (.slice (some ⟨g, off, none⟩) (l.length + 1) c) ∧ w'.cell? ⟨rb, 5, none⟩ = some (.func (.func 159) #[] #[]) ∧ w'.cell? ⟨g, off, none⟩ = some (.int .i64 x.kind) ∧ w'.cell? ⟨g, off + 1, none⟩ = some (.int .i64 x.n) ∧
        w'.cell? ⟨g, off + 2, none⟩ = some (.string x.text) ∧ w'.cell? ⟨g, off + 3, none⟩ = some (.slice A4 x.attrs.length c4') ∧ Below w.heap.size w w')
      ((refine hSS _ ?_; (repeat (first | with_reducible assumption | with_reducible exact Below.refl _ _ | with_reducible refine Below.drew ?_ | with_reducible refine bAlloc ?_ _ | with_reducible refine bSet ?_ ?_ _ | omega))))
      ((go_at_call 159; (first | ((with_reducible refine (cS _ (hT.below (hB0 _).drew)).mono ?_); rintro e w3 ⟨rfl, hb3⟩; have hB3 : Below w.heap.size w w3 := bTrans hb3 (hB0 _).drew; have hz3 : w.heap.size ≤ w3.heap.size := hB3.size; have hz4 : w.heap.size ≤ w3.heap.size + 1 := Nat.le_succ_of_le hB3.size) | ((with_reducible refine (cS _ (hT.below (bAlloc (hB0 _) _).drew)).mono ?_); rintro e w3 ⟨rfl, hb3⟩; have hB3 : Below w.heap.size w w3 := bTrans hb3 (bAlloc (hB0 _) _).drew; have hz3 : w.heap.size ≤ w3.heap.size := hB3.size; have hz4 : w.heap.size ≤ w3.heap.size + 1 := Nat.le_succ_of_le hB3.size; have Z1 := zOne hb3; have q10 : w3.cell? ⟨w.heap.size + 1, 0, none⟩ = some (.int .i64 0) := cell_of_row _ _ 0 _ _ _ Z1; have q11 : w3.cell? ⟨w.heap.size + 1, 1, none⟩ = some (.int .i64 0) := cell_of_row _ _ 1 _ _ _ Z1; have q12 : w3.cell? ⟨w.heap.size + 1, 2, none⟩ = some (.string ⟨#[]⟩) := cell_of_row _ _ 2 _ _ _ Z1; have q13 : w3.cell? ⟨w.heap.size + 1, 3, none⟩ = some (.slice none 0 0) := cell_of_row _ _ 3 _ _ _ Z1; have y1 : ∀ j, w3.frozen? ⟨w.heap.size + 1, j, none⟩ = false := fun j => frozen_of_row _ _ j _ _ Z1; have ln1 : w.heap.size + 1 < w3.heap.size := (Array.getElem?_eq_some_iff.1 Z1).1) | ((with_reducible refine (cS _ (hT.below (bAlloc (bAlloc (hB0 _) _) _).drew)).mono ?_); rintro e w3 ⟨rfl, hb3⟩; have hB3 : Below w.heap.size w w3 := bTrans hb3 (bAlloc (bAlloc (hB0 _) _) _).drew; have hz3 : w.heap.size ≤ w3.heap.size := hB3.size; have hz4 : w.heap.size ≤ w3.heap.size + 1 := Nat.le_succ_of_le hB3.size; obtain ⟨Z1, Z2⟩ := zTwo hb3; have q10 : w3.cell? ⟨w.heap.size + 1, 0, none⟩ = some (.int .i64 0) := cell_of_row _ _ 0 _ _ _ Z1; have q11 : w3.cell? ⟨w.heap.size + 1, 1, none⟩ = some (.int .i64 0) := cell_of_row _ _ 1 _ _ _ Z1; have q12 : w3.cell? ⟨w.heap.size + 1, 2, none⟩ = some (.string ⟨#[]⟩) := cell_of_row _ _ 2 _ _ _ Z1; have q13 : w3.cell? ⟨w.heap.size + 1, 3, none⟩ = some (.slice none 0 0) := cell_of_row _ _ 3 _ _ _ Z1; have y1 : ∀ j, w3.frozen? ⟨w.heap.size + 1, j, none⟩ = false := fun j => frozen_of_row _ _ j _ _ Z1; have ln1 : w.heap.size + 1 < w3.heap.size := (Array.getElem?_eq_some_iff.1 Z1).1; have q20 : w3.cell? ⟨w.heap.size + 1 + 1, 0, none⟩ = some (.int .i64 0) := cell_of_row _ _ 0 _ _ _ Z2; have q21 : w3.cell? ⟨w.heap.size + 1 + 1, 1, none⟩ = some (.int .i64 0) := cell_of_row _ _ 1 _ _ _ Z2; have q22 : w3.cell? ⟨w.heap.size + 1 + 1, 2, none⟩ = some (.string ⟨#[]⟩) := cell_of_row _ _ 2 _ _ _ Z2; have q23 : w3.cell? ⟨w.heap.size + 1 + 1, 3, none⟩ = some (.slice none 0 0) := cell_of_row _ _ 3 _ _ _ Z2; have y2 : ∀ j, w3.frozen? ⟨w.heap.size + 1 + 1, j, none⟩ = false := fun j => frozen_of_row _ _ j _ _ Z2; have ln2 : w.heap.size + 1 + 1 < w3.heap.size := (Array.getElem?_eq_some_iff.1 Z2).1))))
    all_goals
      refine gen_world (F := fun W => Exit.then _ _ _ _ W) _ ?_
      intro W hW
      have hB : Below w.heap.size w W := by
        rw [hW]
        repeat (first | with_reducible assumption | with_reducible exact Below.refl _ _ | with_reducible refine Below.drew ?_ | with_reducible refine bAlloc ?_ _ | with_reducible refine bSet ?_ ?_ _ | omega)
    · have hB1 : Below (w.alloc (.cells #[.int .i64 0, .int .i64 0, .string ⟨#[]⟩, .slice none 0 0] 30)).heap.size (w.alloc (.cells #[.int .i64 0, .int .i64 0, .string ⟨#[]⟩, .slice none 0 0] 30)) W := by
        rw [hW]
        repeat (first | with_reducible exact Below.refl _ _ | with_reducible refine Below.drew ?_ | with_reducible refine bAlloc ?_ _ | with_reducible refine bSet ?_ ?_ _ | with_reducible refine bTrans hb3 ?_ | (rw [World.size_alloc]; omega))
      have hres := (hB1.block w.heap.size (by simp)).trans (heap_alloc_new w (.cells #[.int .i64 0, .int .i64 0, .string ⟨#[]⟩, .slice none 0 0] 30))
      have hu : W.heap[w3.heap.size]? = some (.cells #[.int .i64 k1, .int .i64 n1, .string t1, .slice A4 x.attrs.length c4'] 30 (0, 0)) := by
        rw [hW]
        exact allocO (allocS rfl _) _
      have ht : W.heap[w3.heap.size + 1]? = some (.cells #[.int .i64 k2, .int .i64 n2, .string t2, .slice A4 x.attrs.length c4'] 30 (0, 0)) := by
        rw [hW]
        exact allocS (World.size_alloc _ _) _
      clear hW
      have hgP : g ≠ w3.heap.size := by omega
      have hgQ : g ≠ w3.heap.size + 1 := by omega
      have u0 : W.cell? ⟨w3.heap.size, 0, none⟩ = some (.int .i64 k1) := cell_of_row _ _ 0 _ _ _ hu
      have u1 : W.cell? ⟨w3.heap.size, 1, none⟩ = some (.int .i64 n1) := cell_of_row _ _ 1 _ _ _ hu
      have u2 : W.cell? ⟨w3.heap.size, 2, none⟩ = some (.string t1) := cell_of_row _ _ 2 _ _ _ hu
      have u3 : W.cell? ⟨w3.heap.size, 3, none⟩ = some (.slice A4 x.attrs.length c4') := cell_of_row _ _ 3 _ _ _ hu
      have v0 : W.cell? ⟨w3.heap.size + 1, 0, none⟩ = some (.int .i64 k2) := cell_of_row _ _ 0 _ _ _ ht
      have v1 : W.cell? ⟨w3.heap.size + 1, 1, none⟩ = some (.int .i64 n2) := cell_of_row _ _ 1 _ _ _ ht
      have v2 : W.cell? ⟨w3.heap.size + 1, 2, none⟩ = some (.string t2) := cell_of_row _ _ 2 _ _ _ ht
      have v3 : W.cell? ⟨w3.heap.size + 1, 3, none⟩ = some (.slice A4 x.attrs.length c4') := cell_of_row _ _ 3 _ _ _ ht
      obtain ⟨b0, b5, f0, f1, f2, f3, _⟩ := hSS W hB
      have r0 : W.cell? ⟨w.heap.size, 0, none⟩ = some (.int .i64 0) := cell_of_row _ _ 0 _ _ _ hres
      have r1 : W.cell? ⟨w.heap.size, 1, none⟩ = some (.int .i64 0) := cell_of_row _ _ 1 _ _ _ hres
      have r2 : W.cell? ⟨w.heap.size, 2, none⟩ = some (.string ⟨#[]⟩) := cell_of_row _ _ 2 _ _ _ hres
      have r3 : W.cell? ⟨w.heap.size, 3, none⟩ = some (.slice none 0 0) := cell_of_row _ _ 3 _ _ _ hres
      have rz : ∀ j, W.frozen? ⟨w.heap.size, j, none⟩ = false := fun j => frozen_of_row _ _ j _ _ hres
      have gz : ∀ j, W.frozen? ⟨g, j, none⟩ = false := fun j => frozen_of_row _ _ j _ _ ((hB.block g hgw).trans HCUR.out)
      have HB := Lib.hid hB
      have HS := Lib.hid hres
      clear hu ht hres hB1 hB hSS cS
      go_wp2_with fail
      go_region
      go_wp2_with fail
      exact take_end HB.out hrb HH.out HX.out HS.out hfs.1 hfs.2 HT _ rfl rfl
    · have hB1 : Below (w.alloc (.cells #[.int .i64 0, .int .i64 0, .string ⟨#[]⟩, .slice none 0 0] 30)).heap.size (w.alloc (.cells #[.int .i64 0, .int .i64 0, .string ⟨#[]⟩, .slice none 0 0] 30)) W := by
        rw [hW]
        repeat (first | with_reducible exact Below.refl _ _ | with_reducible refine Below.drew ?_ | with_reducible refine bAlloc ?_ _ | with_reducible refine bSet ?_ ?_ _ | with_reducible refine bTrans hb3 ?_ | (rw [World.size_alloc]; omega))
      have hres := (hB1.block w.heap.size (by simp)).trans (heap_alloc_new w (.cells #[.int .i64 0, .int .i64 0, .string ⟨#[]⟩, .slice none 0 0] 30))
      have hu : W.heap[w3.heap.size + 1]? = some (.cells #[.int .i64 k1, .int .i64 n1, .string t1, .slice A4 x.attrs.length c4'] 30 (0, 0)) := by
        rw [hW]
        exact allocS (World.size_alloc _ _) _
      have ht : W.heap[w3.heap.size]? = some (.cells #[.int .i64 k2, .int .i64 n2, .string t2, .slice A4 x.attrs.length c4'] 30 (0, 0)) := by
        rw [hW]
        exact allocO (allocS rfl _) _
      clear hW
      have hgP : g ≠ w3.heap.size + 1 := by omega
      have hgQ : g ≠ w3.heap.size := by omega
      have u0 : W.cell? ⟨w3.heap.size + 1, 0, none⟩ = some (.int .i64 k1) := cell_of_row _ _ 0 _ _ _ hu
      have u1 : W.cell? ⟨w3.heap.size + 1, 1, none⟩ = some (.int .i64 n1) := cell_of_row _ _ 1 _ _ _ hu
      have u2 : W.cell? ⟨w3.heap.size + 1, 2, none⟩ = some (.string t1) := cell_of_row _ _ 2 _ _ _ hu
      have u3 : W.cell? ⟨w3.heap.size + 1, 3, none⟩ = some (.slice A4 x.attrs.length c4') := cell_of_row _ _ 3 _ _ _ hu
      have v0 : W.cell? ⟨w3.heap.size, 0, none⟩ = some (.int .i64 k2) := cell_of_row _ _ 0 _ _ _ ht
      have v1 : W.cell? ⟨w3.heap.size, 1, none⟩ = some (.int .i64 n2) := cell_of_row _ _ 1 _ _ _ ht
      have v2 : W.cell? ⟨w3.heap.size, 2, none⟩ = some (.string t2) := cell_of_row _ _ 2 _ _ _ ht
      have v3 : W.cell? ⟨w3.heap.size, 3, none⟩ = some (.slice A4 x.attrs.length c4') := cell_of_row _ _ 3 _ _ _ ht
      obtain ⟨b0, b5, f0, f1, f2, f3, _⟩ := hSS W hB
      have r0 : W.cell? ⟨w.heap.size, 0, none⟩ = some (.int .i64 0) := cell_of_row _ _ 0 _ _ _ hres
      have r1 : W.cell? ⟨w.heap.size, 1, none⟩ = some (.int .i64 0) := cell_of_row _ _ 1 _ _ _ hres
      have r2 : W.cell? ⟨w.heap.size, 2, none⟩ = some (.string ⟨#[]⟩) := cell_of_row _ _ 2 _ _ _ hres
      have r3 : W.cell? ⟨w.heap.size, 3, none⟩ = some (.slice none 0 0) := cell_of_row _ _ 3 _ _ _ hres
      have rz : ∀ j, W.frozen? ⟨w.heap.size, j, none⟩ = false := fun j => frozen_of_row _ _ j _ _ hres
      have gz : ∀ j, W.frozen? ⟨g, j, none⟩ = false := fun j => frozen_of_row _ _ j _ _ ((hB.block g hgw).trans HCUR.out)
      have HB := Lib.hid hB
      have HS := Lib.hid hres
      clear hu ht hres hB1 hB hSS cS
      go_wp2_with fail
      go_region
      go_wp2_with fail
      exact take_end HB.out hrb HH.out HX.out HS.out hfs.1 hfs.2 HT _ rfl rfl
    · have hB1 : Below (w.alloc (.cells #[.int .i64 0, .int .i64 0, .string ⟨#[]⟩, .slice none 0 0] 30)).heap.size (w.alloc (.cells #[.int .i64 0, .int .i64 0, .string ⟨#[]⟩, .slice none 0 0] 30)) W := by
        rw [hW]
        repeat (first | with_reducible exact Below.refl _ _ | with_reducible refine Below.drew ?_ | with_reducible refine bAlloc ?_ _ | with_reducible refine bSet ?_ ?_ _ | with_reducible refine bTrans hb3 ?_ | (rw [World.size_alloc]; omega))
      have hres := (hB1.block w.heap.size (by simp)).trans (heap_alloc_new w (.cells #[.int .i64 0, .int .i64 0, .string ⟨#[]⟩, .slice none 0 0] 30))
      have hu : W.heap[w.heap.size + 1]? = some (.cells #[.int .i64 k1, .int .i64 n1, .string t1, .slice A4 x.attrs.length c4'] 30 (0, 0)) := by
        rw [hW]
        exact allocO (four Z1 _ _ _ _) _
      have ht : W.heap[w3.heap.size]? = some (.cells #[.int .i64 k2, .int .i64 n2, .string t2, .slice A4 x.attrs.length c4'] 30 (0, 0)) := by
        rw [hW]
        exact allocS (four_size _ _ _ _) _
      clear hW
      have hgP : g ≠ w.heap.size + 1 := by omega
      have hgQ : g ≠ w3.heap.size := by omega
      have u0 : W.cell? ⟨w.heap.size + 1, 0, none⟩ = some (.int .i64 k1) := cell_of_row _ _ 0 _ _ _ hu
      have u1 : W.cell? ⟨w.heap.size + 1, 1, none⟩ = some (.int .i64 n1) := cell_of_row _ _ 1 _ _ _ hu
      have u2 : W.cell? ⟨w.heap.size + 1, 2, none⟩ = some (.string t1) := cell_of_row _ _ 2 _ _ _ hu
      have u3 : W.cell? ⟨w.heap.size + 1, 3, none⟩ = some (.slice A4 x.attrs.length c4') := cell_of_row _ _ 3 _ _ _ hu
      have v0 : W.cell? ⟨w3.heap.size, 0, none⟩ = some (.int .i64 k2) := cell_of_row _ _ 0 _ _ _ ht
      have v1 : W.cell? ⟨w3.heap.size, 1, none⟩ = some (.int .i64 n2) := cell_of_row _ _ 1 _ _ _ ht
      have v2 : W.cell? ⟨w3.heap.size, 2, none⟩ = some (.string t2) := cell_of_row _ _ 2 _ _ _ ht
      have v3 : W.cell? ⟨w3.heap.size, 3, none⟩ = some (.slice A4 x.attrs.length c4') := cell_of_row _ _ 3 _ _ _ ht
      obtain ⟨b0, b5, f0, f1, f2, f3, _⟩ := hSS W hB
      have r0 : W.cell? ⟨w.heap.size, 0, none⟩ = some (.int .i64 0) := cell_of_row _ _ 0 _ _ _ hres
      have r1 : W.cell? ⟨w.heap.size, 1, none⟩ = some (.int .i64 0) := cell_of_row _ _ 1 _ _ _ hres
      have r2 : W.cell? ⟨w.heap.size, 2, none⟩ = some (.string ⟨#[]⟩) := cell_of_row _ _ 2 _ _ _ hres
      have r3 : W.cell? ⟨w.heap.size, 3, none⟩ = some (.slice none 0 0) := cell_of_row _ _ 3 _ _ _ hres
      have rz : ∀ j, W.frozen? ⟨w.heap.size, j, none⟩ = false := fun j => frozen_of_row _ _ j _ _ hres
      have gz : ∀ j, W.frozen? ⟨g, j, none⟩ = false := fun j => frozen_of_row _ _ j _ _ ((hB.block g hgw).trans HCUR.out)
      have HB := Lib.hid hB
      have HS := Lib.hid hres
      clear hu ht hres hB1 hB hSS cS
      go_wp2_with fail
      go_region
      go_wp2_with fail
      exact take_end HB.out hrb HH.out HX.out HS.out hfs.1 hfs.2 HT _ rfl rfl
    · have hB1 : Below (w.alloc (.cells #[.int .i64 0, .int .i64 0, .string ⟨#[]⟩, .slice none 0 0] 30)).heap.size (w.alloc (.cells #[.int .i64 0, .int .i64 0, .string ⟨#[]⟩, .slice none 0 0] 30)) W := by
        rw [hW]
        repeat (first | with_reducible exact Below.refl _ _ | with_reducible refine Below.drew ?_ | with_reducible refine bAlloc ?_ _ | with_reducible refine bSet ?_ ?_ _ | with_reducible refine bTrans hb3 ?_ | (rw [World.size_alloc]; omega))
      have hres := (hB1.block w.heap.size (by simp)).trans (heap_alloc_new w (.cells #[.int .i64 0, .int .i64 0, .string ⟨#[]⟩, .slice none 0 0] 30))
      have hu : W.heap[w.heap.size + 1]? = some (.cells #[.int .i64 k1, .int .i64 n1, .string t1, .slice A4 x.attrs.length c4'] 30 (0, 0)) := by
        rw [hW]
        first | exact (fourO (by omega) _ _ _ _).trans (four Z1 _ _ _ _) | exact four ((fourO (by omega) _ _ _ _).trans Z1) _ _ _ _
      have ht : W.heap[w.heap.size + 1 + 1]? = some (.cells #[.int .i64 k2, .int .i64 n2, .string t2, .slice A4 x.attrs.length c4'] 30 (0, 0)) := by
        rw [hW]
        first | exact four ((fourO (by omega) _ _ _ _).trans Z2) _ _ _ _ | exact (fourO (by omega) _ _ _ _).trans (four Z2 _ _ _ _)
      clear hW
      have hgP : g ≠ w.heap.size + 1 := by omega
      have hgQ : g ≠ w.heap.size + 1 + 1 := by omega
      have u0 : W.cell? ⟨w.heap.size + 1, 0, none⟩ = some (.int .i64 k1) := cell_of_row _ _ 0 _ _ _ hu
      have u1 : W.cell? ⟨w.heap.size + 1, 1, none⟩ = some (.int .i64 n1) := cell_of_row _ _ 1 _ _ _ hu
      have u2 : W.cell? ⟨w.heap.size + 1, 2, none⟩ = some (.string t1) := cell_of_row _ _ 2 _ _ _ hu
      have u3 : W.cell? ⟨w.heap.size + 1, 3, none⟩ = some (.slice A4 x.attrs.length c4') := cell_of_row _ _ 3 _ _ _ hu
      have v0 : W.cell? ⟨w.heap.size + 1 + 1, 0, none⟩ = some (.int .i64 k2) := cell_of_row _ _ 0 _ _ _ ht
      have v1 : W.cell? ⟨w.heap.size + 1 + 1, 1, none⟩ = some (.int .i64 n2) := cell_of_row _ _ 1 _ _ _ ht
      have v2 : W.cell? ⟨w.heap.size + 1 + 1, 2, none⟩ = some (.string t2) := cell_of_row _ _ 2 _ _ _ ht
      have v3 : W.cell? ⟨w.heap.size + 1 + 1, 3, none⟩ = some (.slice A4 x.attrs.length c4') := cell_of_row _ _ 3 _ _ _ ht
      obtain ⟨b0, b5, f0, f1, f2, f3, _⟩ := hSS W hB
      have r0 : W.cell? ⟨w.heap.size, 0, none⟩ = some (.int .i64 0) := cell_of_row _ _ 0 _ _ _ hres
      have r1 : W.cell? ⟨w.heap.size, 1, none⟩ = some (.int .i64 0) := cell_of_row _ _ 1 _ _ _ hres
      have r2 : W.cell? ⟨w.heap.size, 2, none⟩ = some (.string ⟨#[]⟩) := cell_of_row _ _ 2 _ _ _ hres
      have r3 : W.cell? ⟨w.heap.size, 3, none⟩ = some (.slice none 0 0) := cell_of_row _ _ 3 _ _ _ hres
      have rz : ∀ j, W.frozen? ⟨w.heap.size, j, none⟩ = false := fun j => frozen_of_row _ _ j _ _ hres
      have gz : ∀ j, W.frozen? ⟨g, j, none⟩ = false := fun j => frozen_of_row _ _ j _ _ ((hB.block g hgw).trans HCUR.out)
      have HB := Lib.hid hB
      have HS := Lib.hid hres
      clear hu ht hres hB1 hB hSS cS
      go_wp2_with fail
      go_region
      go_wp2_with fail
      exact take_end HB.out hrb HH.out HX.out HS.out hfs.1 hfs.2 HT _ rfl rfl
    · have hB1 : Below (w.alloc (.cells #[.int .i64 0, .int .i64 0, .string ⟨#[]⟩, .slice none 0 0] 30)).heap.size (w.alloc (.cells #[.int .i64 0, .int .i64 0, .string ⟨#[]⟩, .slice none 0 0] 30)) W := by
        rw [hW]
        repeat (first | with_reducible exact Below.refl _ _ | with_reducible refine Below.drew ?_ | with_reducible refine bAlloc ?_ _ | with_reducible refine bSet ?_ ?_ _ | with_reducible refine bTrans hb3 ?_ | (rw [World.size_alloc]; omega))
      have hres := (hB1.block w.heap.size (by simp)).trans (heap_alloc_new w (.cells #[.int .i64 0, .int .i64 0, .string ⟨#[]⟩, .slice none 0 0] 30))
      have hu : W.heap[w3.heap.size]? = some (.cells #[.int .i64 k1, .int .i64 n1, .string t1, .slice A4 x.attrs.length c4'] 30 (0, 0)) := by
        rw [hW]
        exact allocS (four_size _ _ _ _) _
      have ht : W.heap[w.heap.size + 1]? = some (.cells #[.int .i64 k2, .int .i64 n2, .string t2, .slice A4 x.attrs.length c4'] 30 (0, 0)) := by
        rw [hW]
        exact allocO (four Z1 _ _ _ _) _
      clear hW
      have hgP : g ≠ w3.heap.size := by omega
      have hgQ : g ≠ w.heap.size + 1 := by omega
      have u0 : W.cell? ⟨w3.heap.size, 0, none⟩ = some (.int .i64 k1) := cell_of_row _ _ 0 _ _ _ hu
      have u1 : W.cell? ⟨w3.heap.size, 1, none⟩ = some (.int .i64 n1) := cell_of_row _ _ 1 _ _ _ hu
      have u2 : W.cell? ⟨w3.heap.size, 2, none⟩ = some (.string t1) := cell_of_row _ _ 2 _ _ _ hu
      have u3 : W.cell? ⟨w3.heap.size, 3, none⟩ = some (.slice A4 x.attrs.length c4') := cell_of_row _ _ 3 _ _ _ hu
      have v0 : W.cell? ⟨w.heap.size + 1, 0, none⟩ = some (.int .i64 k2) := cell_of_row _ _ 0 _ _ _ ht
      have v1 : W.cell? ⟨w.heap.size + 1, 1, none⟩ = some (.int .i64 n2) := cell_of_row _ _ 1 _ _ _ ht
      have v2 : W.cell? ⟨w.heap.size + 1, 2, none⟩ = some (.string t2) := cell_of_row _ _ 2 _ _ _ ht
      have v3 : W.cell? ⟨w.heap.size + 1, 3, none⟩ = some (.slice A4 x.attrs.length c4') := cell_of_row _ _ 3 _ _ _ ht
      obtain ⟨b0, b5, f0, f1, f2, f3, _⟩ := hSS W hB
      have r0 : W.cell? ⟨w.heap.size, 0, none⟩ = some (.int .i64 0) := cell_of_row _ _ 0 _ _ _ hres
      have r1 : W.cell? ⟨w.heap.size, 1, none⟩ = some (.int .i64 0) := cell_of_row _ _ 1 _ _ _ hres
      have r2 : W.cell? ⟨w.heap.size, 2, none⟩ = some (.string ⟨#[]⟩) := cell_of_row _ _ 2 _ _ _ hres
      have r3 : W.cell? ⟨w.heap.size, 3, none⟩ = some (.slice none 0 0) := cell_of_row _ _ 3 _ _ _ hres
      have rz : ∀ j, W.frozen? ⟨w.heap.size, j, none⟩ = false := fun j => frozen_of_row _ _ j _ _ hres
      have gz : ∀ j, W.frozen? ⟨g, j, none⟩ = false := fun j => frozen_of_row _ _ j _ _ ((hB.block g hgw).trans HCUR.out)
      have HB := Lib.hid hB
      have HS := Lib.hid hres
      clear hu ht hres hB1 hB hSS cS
      go_wp2_with fail
      go_region
      go_wp2_with fail
      exact take_end HB.out hrb HH.out HX.out HS.out hfs.1 hfs.2 HT _ rfl rfl
    · have hB1 : Below (w.alloc (.cells #[.int .i64 0, .int .i64 0, .string ⟨#[]⟩, .slice none 0 0] 30)).heap.size (w.alloc (.cells #[.int .i64 0, .int .i64 0, .string ⟨#[]⟩, .slice none 0 0] 30)) W := by
        rw [hW]
        repeat (first | with_reducible exact Below.refl _ _ | with_reducible refine Below.drew ?_ | with_reducible refine bAlloc ?_ _ | with_reducible refine bSet ?_ ?_ _ | with_reducible refine bTrans hb3 ?_ | (rw [World.size_alloc]; omega))
      have hres := (hB1.block w.heap.size (by simp)).trans (heap_alloc_new w (.cells #[.int .i64 0, .int .i64 0, .string ⟨#[]⟩, .slice none 0 0] 30))
      have hu : W.heap[w.heap.size + 1 + 1]? = some (.cells #[.int .i64 k1, .int .i64 n1, .string t1, .slice A4 x.attrs.length c4'] 30 (0, 0)) := by
        rw [hW]
        first | exact (fourO (by omega) _ _ _ _).trans (four Z2 _ _ _ _) | exact four ((fourO (by omega) _ _ _ _).trans Z2) _ _ _ _
      have ht : W.heap[w.heap.size + 1]? = some (.cells #[.int .i64 k2, .int .i64 n2, .string t2, .slice A4 x.attrs.length c4'] 30 (0, 0)) := by
        rw [hW]
        first | exact four ((fourO (by omega) _ _ _ _).trans Z1) _ _ _ _ | exact (fourO (by omega) _ _ _ _).trans (four Z1 _ _ _ _)
      clear hW
      have hgP : g ≠ w.heap.size + 1 + 1 := by omega
      have hgQ : g ≠ w.heap.size + 1 := by omega
      have u0 : W.cell? ⟨w.heap.size + 1 + 1, 0, none⟩ = some (.int .i64 k1) := cell_of_row _ _ 0 _ _ _ hu
      have u1 : W.cell? ⟨w.heap.size + 1 + 1, 1, none⟩ = some (.int .i64 n1) := cell_of_row _ _ 1 _ _ _ hu
      have u2 : W.cell? ⟨w.heap.size + 1 + 1, 2, none⟩ = some (.string t1) := cell_of_row _ _ 2 _ _ _ hu
      have u3 : W.cell? ⟨w.heap.size + 1 + 1, 3, none⟩ = some (.slice A4 x.attrs.length c4') := cell_of_row _ _ 3 _ _ _ hu
      have v0 : W.cell? ⟨w.heap.size + 1, 0, none⟩ = some (.int .i64 k2) := cell_of_row _ _ 0 _ _ _ ht
      have v1 : W.cell? ⟨w.heap.size + 1, 1, none⟩ = some (.int .i64 n2) := cell_of_row _ _ 1 _ _ _ ht
      have v2 : W.cell? ⟨w.heap.size + 1, 2, none⟩ = some (.string t2) := cell_of_row _ _ 2 _ _ _ ht
      have v3 : W.cell? ⟨w.heap.size + 1, 3, none⟩ = some (.slice A4 x.attrs.length c4') := cell_of_row _ _ 3 _ _ _ ht
      obtain ⟨b0, b5, f0, f1, f2, f3, _⟩ := hSS W hB
      have r0 : W.cell? ⟨w.heap.size, 0, none⟩ = some (.int .i64 0) := cell_of_row _ _ 0 _ _ _ hres
      have r1 : W.cell? ⟨w.heap.size, 1, none⟩ = some (.int .i64 0) := cell_of_row _ _ 1 _ _ _ hres
      have r2 : W.cell? ⟨w.heap.size, 2, none⟩ = some (.string ⟨#[]⟩) := cell_of_row _ _ 2 _ _ _ hres
      have r3 : W.cell? ⟨w.heap.size, 3, none⟩ = some (.slice none 0 0) := cell_of_row _ _ 3 _ _ _ hres
      have rz : ∀ j, W.frozen? ⟨w.heap.size, j, none⟩ = false := fun j => frozen_of_row _ _ j _ _ hres
      have gz : ∀ j, W.frozen? ⟨g, j, none⟩ = false := fun j => frozen_of_row _ _ j _ _ ((hB.block g hgw).trans HCUR.out)
      have HB := Lib.hid hB
      have HS := Lib.hid hres
      clear hu ht hres hB1 hB hSS cS
      go_wp2_with fail
      go_region
      go_wp2_with fail
      exact take_end HB.out hrb HH.out HX.out HS.out hfs.1 hfs.2 HT _ rfl rfl
end Go.Proofs.YtaemajcpgmaapaaDoor

namespace Go.Proofs.YtaemajcpgmaapaaDoor
open Go.RowKit

theorem OwnA.apart {va : Value} {la : List Attr} {lo lv wb : Nat} {w : World} {v : Value} {l : List Op} {cs : Array Value} (ha : OwnA lo w va la) (hm : w.heap[wb]? = some (.cells cs 127 (0, 0))) (ho : OwnO lv w v l) : ∀ k, va.ownBlock = some k → k ≠ wb ∧ v.ownBlock ≠ some k := fun k hk => by
  obtain ⟨cs, hk'⟩ := ha.block hk
  exact ⟨heap_ne hk' hm (by decide), fun e => own_ne_blockO ho hk' (by decide) _ e rfl⟩

set_option maxRecDepth 100000 in
set_option maxHeartbeats 4000000 in
theorem cMeet (wb lo lp lq : Nat) (v vp vq : Value) (l : List Op) (gone : Int) (p q : Op) (w : World)
    (hmb : w.heap[wb]? = some (.cells #[v, .int .i64 gone] 127 (0, 0))) (hlo : lo ≤ wb) (hown : OwnO lo w v l) (hp : OwnA lp w vp p.attrs) (hq : OwnA lq w vq q.attrs) (hfp : Fits p.text)
    (hkp : p.kind = 1 ∨ p.kind = 2) (hkq : q.kind = 1 ∨ q.kind = 3) (hsz : ∀ x ∈ l, x.text.size + p.text.size ≤ 140737488355328) (hlen : (l.length + 2) * 56 ≤ 140737488355328) :
    Calls Tryd.prog 120 #[opV p vp, opV q vq, .pointer (some ⟨wb, 0, none⟩)] w fun e w' => e = .returned (.int .i64 (meetC p q).2) ∧ PPost lo wb v ((meetC p q).1.foldl nStep (l, gone)) w w' := by
  obtain ⟨Ap, np, rfl, hAp, hrp⟩ := hp.rd
  obtain ⟨Aq, nq, rfl, hAq, hrq⟩ := hq.rd
  obtain ⟨pk, pn, pt, pa⟩ := p
  obtain ⟨qk, qn, qt, qa⟩ := q
  unfold opV
  dsimp only at *
  have hwb : wb < w.heap.size := (Array.getElem?_eq_some_iff.1 hmb).1
  have hb0 : Below w.heap.size w ((w.alloc (.cells #[.int .i64 pk, .int .i64 pn, .string pt, .slice Ap pa.length np] 30)).alloc (.cells #[.int .i64 qk, .int .i64 qn, .string qt, .slice Aq qa.length nq] 30)) := ((Below.refl _ _).alloc (Nat.le_refl _) _).alloc (by simp) _
  have g0 : ((w.alloc (.cells #[.int .i64 pk, .int .i64 pn, .string pt, .slice Ap pa.length np] 30)).alloc (.cells #[.int .i64 qk, .int .i64 qn, .string qt, .slice Aq qa.length nq] 30)).heap[w.heap.size]? = some (.cells #[.int .i64 pk, .int .i64 pn, .string pt, .slice Ap pa.length np] 30 (0, 0)) :=
    (Below.heap_alloc _ _ _ (by simp)).trans (heap_alloc_new w _)
  have hp' := hp.below hb0
  have hq' := hq.below hb0
  have hm' := (hb0.block wb hwb).trans hmb
  have ho' := hown.below hb0
  have HMB := Lib.hid hmb
  have HOW := Lib.hid hown
  have HB0 := Lib.hid hb0
  have HG0 := Lib.hid g0
  clear hrp hrq hmb hown hp hq g0
  rcases hkq with rfl | rfl
  · rcases hkp with rfl | rfl
    · have HM : Hid (meetC ⟨1, pn, pt, pa⟩ ⟨1, qn, qt, qa⟩ = (if cpErr pa qa = 0 then [⟨1, pn, pt, cpL pa qa⟩] else [], cpErr pa qa)) := rfl
      have cC := compose_attrs (.slice Ap pa.length np) (.slice Aq qa.length nq) pa qa _ _ _ hp'.rd hq'.rd
      rw [HM.out]
      clear HM
      obtain ⟨er, HE⟩ : ∃ er, Hid (cpErr pa qa = er) := ⟨_, rfl⟩
      obtain ⟨rl, HL⟩ : ∃ rl, Hid (cpL pa qa = rl) := ⟨_, rfl⟩
      rw [HE.out, HL.out] at cC
      rw [HE.out, HL.out]
      by_cases he : er = 0
      · subst he
        rw [if_pos rfl]
        go_enter Tryd.func120, Tryd.ntmps120
        go_wp2_with fail
        with_reducible refine cC.mono ?_
        rintro e w1 ⟨v7, rfl, hb1, ho1⟩
        have hbw : Below w.heap.size w w1 := HB0.out.trans (hb1.mono HB0.out.size)
        have hqq := (hb1.block w.heap.size (by simp; omega)).trans HG0.out
        have q0 : w1.cell? ⟨w.heap.size, 0, none⟩ = some (.int .i64 1) := cell_of_row _ _ 0 _ _ _ hqq
        have q1 : w1.cell? ⟨w.heap.size, 1, none⟩ = some (.int .i64 pn) := cell_of_row _ _ 1 _ _ _ hqq
        have q2 : w1.cell? ⟨w.heap.size, 2, none⟩ = some (.string pt) := cell_of_row _ _ 2 _ _ _ hqq
        have q3 : w1.cell? ⟨w.heap.size, 3, none⟩ = some (.slice Ap pa.length np) := cell_of_row _ _ 3 _ _ _ hqq
        have qf : w1.frozen? ⟨w.heap.size, 3, none⟩ = false := frozen_of_row _ _ 3 _ _ hqq
        have ho8 := ho1.setOp (j := 3) (u := v7) hqq
        have hb8 : Below w.heap.size w (w1.setCell ⟨w.heap.size, 3, none⟩ v7) := hbw.setCell (p := ⟨w.heap.size, 3, none⟩) (Nat.le_refl _) v7
        have hm8 := (hb8.block wb hwb).trans HMB.out
        have hw8 := HOW.out.below hb8
        obtain ⟨A7, n7, rfl, _, _⟩ := ho1.rd
        have HB8 := Lib.hid hb8
        have cN := cKeep wb lo v l gone pn pt (.slice A7 rl.length n7) rl _ _ hm8 hlo hw8 ho8.rdS (ho8.apart hm8 hw8) hfp hsz hlen
        clear hqq hb1 ho1 hb8 hm8 hw8 cC hbw HG0 HMB HOW hp' hq' hm' ho'
        go_wp2_with fail
        with_reducible refine cN.mono ?_
        rintro e w2 ⟨rfl, hp2⟩
        go_wp2_with fail
        go_ret
        refine ⟨rfl, ?_⟩
        have hst : List.foldl nStep (l, gone) [⟨1, pn, pt, rl⟩] = (putL (flushL (l, gone)).1 ⟨1, pn, pt, rl⟩, (flushL (l, gone)).2) := rfl
        rw [hst]
        exact PPost.trans (Chg.of_below HB8.out _) (.inl rfl) hp2
      · rw [if_neg he]
        have heb : (er == 0) = false := by simp [he]
        have HE2 := Lib.hid he
        clear he
        go_enter Tryd.func120, Tryd.ntmps120
        go_wp2_with fail
        with_reducible refine cC.mono ?_
        rintro e w1 ⟨v7, rfl, hb1, ho1⟩
        have hbw : Below w.heap.size w w1 := HB0.out.trans (hb1.mono HB0.out.size)
        have hqq := (hb1.block w.heap.size (by simp; omega)).trans HG0.out
        have q0 : w1.cell? ⟨w.heap.size, 0, none⟩ = some (.int .i64 1) := cell_of_row _ _ 0 _ _ _ hqq
        have q1 : w1.cell? ⟨w.heap.size, 1, none⟩ = some (.int .i64 pn) := cell_of_row _ _ 1 _ _ _ hqq
        have q2 : w1.cell? ⟨w.heap.size, 2, none⟩ = some (.string pt) := cell_of_row _ _ 2 _ _ _ hqq
        have q3 : w1.cell? ⟨w.heap.size, 3, none⟩ = some (.slice Ap pa.length np) := cell_of_row _ _ 3 _ _ _ hqq
        have qf : w1.frozen? ⟨w.heap.size, 3, none⟩ = false := frozen_of_row _ _ 3 _ _ hqq
        have ho8 := ho1.setOp (j := 3) (u := v7) hqq
        have hb8 : Below w.heap.size w (w1.setCell ⟨w.heap.size, 3, none⟩ v7) := hbw.setCell (p := ⟨w.heap.size, 3, none⟩) (Nat.le_refl _) v7
        have hm8 := (hb8.block wb hwb).trans HMB.out
        have hw8 := HOW.out.below hb8
        obtain ⟨A7, n7, rfl, _, _⟩ := ho1.rd
        have HB8 := Lib.hid hb8
        have hP : PPost lo wb v (l, gone) w (w1.setCell ⟨w.heap.size, 3, none⟩ (.slice A7 rl.length n7)) := ⟨v, hm8, hw8, Chg.of_below hb8 _, .inl rfl⟩
        have HPP := Lib.hid hP
        clear hqq hb1 ho1 hb8 hm8 hw8 cC hbw HG0 HMB HOW hp' hq' hm' ho' hP
        go_wp2_with fail
        go_ret
        exact ⟨rfl, HPP.out⟩
    · have HM : Hid (meetC ⟨2, pn, pt, pa⟩ ⟨1, qn, qt, qa⟩ = (if apErr pa qa = 0 then [⟨2, pn, pt, apL pa qa⟩] else [], apErr pa qa)) := rfl
      have cC := apply_attrs (.slice Ap pa.length np) (.slice Aq qa.length nq) pa qa _ _ _ hp'.rd hq'.rd
      rw [HM.out]
      clear HM
      obtain ⟨er, HE⟩ : ∃ er, Hid (apErr pa qa = er) := ⟨_, rfl⟩
      obtain ⟨rl, HL⟩ : ∃ rl, Hid (apL pa qa = rl) := ⟨_, rfl⟩
      rw [HE.out, HL.out] at cC
      rw [HE.out, HL.out]
      by_cases he : er = 0
      · subst he
        rw [if_pos rfl]
        go_enter Tryd.func120, Tryd.ntmps120
        go_wp2_with fail
        with_reducible refine cC.mono ?_
        rintro e w1 ⟨v7, rfl, hb1, ho1⟩
        have hbw : Below w.heap.size w w1 := HB0.out.trans (hb1.mono HB0.out.size)
        have hqq := (hb1.block w.heap.size (by simp; omega)).trans HG0.out
        have q0 : w1.cell? ⟨w.heap.size, 0, none⟩ = some (.int .i64 2) := cell_of_row _ _ 0 _ _ _ hqq
        have q1 : w1.cell? ⟨w.heap.size, 1, none⟩ = some (.int .i64 pn) := cell_of_row _ _ 1 _ _ _ hqq
        have q2 : w1.cell? ⟨w.heap.size, 2, none⟩ = some (.string pt) := cell_of_row _ _ 2 _ _ _ hqq
        have q3 : w1.cell? ⟨w.heap.size, 3, none⟩ = some (.slice Ap pa.length np) := cell_of_row _ _ 3 _ _ _ hqq
        have qf : w1.frozen? ⟨w.heap.size, 3, none⟩ = false := frozen_of_row _ _ 3 _ _ hqq
        have ho8 := ho1.setOp (j := 3) (u := v7) hqq
        have hb8 : Below w.heap.size w (w1.setCell ⟨w.heap.size, 3, none⟩ v7) := hbw.setCell (p := ⟨w.heap.size, 3, none⟩) (Nat.le_refl _) v7
        have hm8 := (hb8.block wb hwb).trans HMB.out
        have hw8 := HOW.out.below hb8
        obtain ⟨A7, n7, rfl, _, _⟩ := ho1.rd
        have HB8 := Lib.hid hb8
        have cN := cIns wb lo v l gone pn pt (.slice A7 rl.length n7) rl _ _ hm8 hlo hw8 ho8.rd hfp hsz hlen
        clear hqq hb1 ho1 hb8 hm8 hw8 cC hbw HG0 HMB HOW hp' hq' hm' ho'
        go_wp2_with fail
        with_reducible refine cN.mono ?_
        rintro e w2 ⟨rfl, hp2⟩
        go_wp2_with fail
        go_ret
        refine ⟨rfl, ?_⟩
        have hst : List.foldl nStep (l, gone) [⟨2, pn, pt, rl⟩] = (putL l ⟨2, pn, pt, rl⟩, gone) := rfl
        rw [hst]
        exact PPost.trans (Chg.of_below HB8.out _) (.inl rfl) hp2
      · rw [if_neg he]
        have heb : (er == 0) = false := by simp [he]
        have HE2 := Lib.hid he
        clear he
        go_enter Tryd.func120, Tryd.ntmps120
        go_wp2_with fail
        with_reducible refine cC.mono ?_
        rintro e w1 ⟨v7, rfl, hb1, ho1⟩
        have hbw : Below w.heap.size w w1 := HB0.out.trans (hb1.mono HB0.out.size)
        have hqq := (hb1.block w.heap.size (by simp; omega)).trans HG0.out
        have q0 : w1.cell? ⟨w.heap.size, 0, none⟩ = some (.int .i64 2) := cell_of_row _ _ 0 _ _ _ hqq
        have q1 : w1.cell? ⟨w.heap.size, 1, none⟩ = some (.int .i64 pn) := cell_of_row _ _ 1 _ _ _ hqq
        have q2 : w1.cell? ⟨w.heap.size, 2, none⟩ = some (.string pt) := cell_of_row _ _ 2 _ _ _ hqq
        have q3 : w1.cell? ⟨w.heap.size, 3, none⟩ = some (.slice Ap pa.length np) := cell_of_row _ _ 3 _ _ _ hqq
        have qf : w1.frozen? ⟨w.heap.size, 3, none⟩ = false := frozen_of_row _ _ 3 _ _ hqq
        have ho8 := ho1.setOp (j := 3) (u := v7) hqq
        have hb8 : Below w.heap.size w (w1.setCell ⟨w.heap.size, 3, none⟩ v7) := hbw.setCell (p := ⟨w.heap.size, 3, none⟩) (Nat.le_refl _) v7
        have hm8 := (hb8.block wb hwb).trans HMB.out
        have hw8 := HOW.out.below hb8
        obtain ⟨A7, n7, rfl, _, _⟩ := ho1.rd
        have HB8 := Lib.hid hb8
        have hP : PPost lo wb v (l, gone) w (w1.setCell ⟨w.heap.size, 3, none⟩ (.slice A7 rl.length n7)) := ⟨v, hm8, hw8, Chg.of_below hb8 _, .inl rfl⟩
        have HPP := Lib.hid hP
        clear hqq hb1 ho1 hb8 hm8 hw8 cC hbw HG0 HMB HOW hp' hq' hm' ho' hP
        go_wp2_with fail
        go_ret
        exact ⟨rfl, HPP.out⟩
  · rcases hkp with rfl | rfl
    · have HM : Hid (meetC ⟨1, pn, pt, pa⟩ ⟨3, qn, qt, qa⟩ = ([⟨3, qn, qt, qa⟩], 0)) := rfl
      have cD := cDel wb lo v l gone qn qt Aq qa.length nq _ hm' ho'
      rw [HM.out]
      clear HM hp' hq' hm' ho' HMB HOW HG0
      go_enter Tryd.func120, Tryd.ntmps120
      go_wp2_with fail
      with_reducible refine cD.mono ?_
      rintro e w2 ⟨rfl, hp2⟩
      go_wp2_with fail
      go_ret
      refine ⟨rfl, ?_⟩
      have hst : List.foldl nStep (l, gone) [⟨3, qn, qt, qa⟩] = (l, wrap64 (gone + qn)) := rfl
      rw [hst]
      exact PPost.trans (Chg.of_below HB0.out _) (.inl rfl) hp2
    · have HM : Hid (meetC ⟨2, pn, pt, pa⟩ ⟨3, qn, qt, qa⟩ = ([], 0)) := rfl
      have hP : PPost lo wb v (l, gone) w _ := ⟨v, hm', ho', Chg.of_below HB0.out _, .inl rfl⟩
      have HPP := Lib.hid hP
      rw [HM.out]
      clear HM hp' hq' hm' ho' HMB HOW HG0 hP
      go_enter Tryd.func120, Tryd.ntmps120
      go_wp2_with fail
      go_ret
      exact ⟨rfl, HPP.out⟩
end Go.Proofs.YtaemajcpgmaapaaDoor

namespace Go.Proofs.YtaemajcpgmaapaaDoor
open Go.RowKit

/-- What Compose holds between its rounds. -/
structure CInv (w wr : World) (xb yb wb : Nat) (rs : List (Nat × Array Value)) (vx vy vw : Value) (X Y : List Op) (s : List Op × Int) : Prop where
  below : Below w.heap.size w wr
  res : ∀ r ∈ rs, wr.heap[r.1]? = some (.cells r.2 24 (0, 0))
  hx : wr.heap[xb]? = some (.cells (rowCells vx) 130 (0, 0))
  hy : wr.heap[yb]? = some (.cells (rowCells vy) 130 (0, 0))
  hw : wr.heap[wb]? = some (.cells #[vw, .int .i64 s.2] 127 (0, 0))
  rx : RowO w.heap.size wr vx X
  ry : RowO w.heap.size wr vy Y
  ow : OwnO w.heap.size wr vw s.1
  lx : w.heap.size ≤ xb
  ly : w.heap.size ≤ yb
  lw : w.heap.size ≤ wb
  xy : xb ≠ yb
  nxy : ∀ k, vx.ownBlock = some k → vy.ownBlock ≠ some k
  nxw : ∀ k, vx.ownBlock = some k → vw.ownBlock ≠ some k
  nyw : ∀ k, vy.ownBlock = some k → vw.ownBlock ≠ some k
section
variable {w wr w' : World} {xb yb wb : Nat} {rs : List (Nat × Array Value)} {vx vy vw : Value} {X Y : List Op} {s : List Op × Int}
theorem CInv.size (h : CInv w wr xb yb wb rs vx vy vw X Y s) : xb < wr.heap.size ∧ yb < wr.heap.size ∧ wb < wr.heap.size :=
  ⟨(Array.getElem?_eq_some_iff.1 h.hx).1, (Array.getElem?_eq_some_iff.1 h.hy).1, (Array.getElem?_eq_some_iff.1 h.hw).1⟩
/-- Behind a call that lays blocks alone. -/
theorem CInv.far (h : CInv w wr xb yb wb rs vx vy vw X Y s) (hb : Below wr.heap.size wr w') : CInv w w' xb yb wb rs vx vy vw X Y s := by
  obtain ⟨z1, z2, z3⟩ := h.size
  exact ⟨h.below.trans (hb.mono h.below.size), fun r hr => (hb.block _ (Array.getElem?_eq_some_iff.1 (h.res r hr)).1).trans (h.res r hr), (hb.block _ z1).trans h.hx, (hb.block _ z2).trans h.hy, (hb.block _ z3).trans h.hw, h.rx.below hb, h.ry.below hb, h.ow.below hb, h.lx, h.ly, h.lw, h.xy, h.nxy, h.nxw, h.nyw⟩
/-- Behind a call that turns the first reader. -/
theorem CInv.turnX {vx' : Value} {X' : List Op} (h : CInv w wr xb yb wb rs vx vy vw X Y s) (hc : Chg (fun k => k = xb ∨ vx.ownBlock = some k) wr w') (hx : w'.heap[xb]? = some (.cells (rowCells vx') 130 (0, 0))) (rx : RowO w.heap.size w' vx' X') (ho : vx'.ownBlock = vx.ownBlock) :
    CInv w w' xb yb wb rs vx' vy vw X' Y s := by
  obtain ⟨z1, z2, z3⟩ := h.size
  have hxo : ∀ k, vx.ownBlock = some k → ∃ cur, wr.heap[k]? = some (.cells cur 30 (0, 0)) := fun k hk => (h.rx.lt k hk).2.2
  have ne : ∀ {k T : Nat} {cs : Array Value} {fr : Nat × Nat}, wr.heap[k]? = some (.cells cs T fr) → k ≠ xb → T ≠ 30 → ¬ (k = xb ∨ vx.ownBlock = some k) := fun hk h1 hT e => by
    rcases e with e | e
    · exact h1 e
    · obtain ⟨_, hk'⟩ := hxo _ e
      exact heap_ne hk hk' hT rfl
  refine ⟨h.below.trans (hc.below h.below.size fun k hk => ?_), fun r hr => (hc.block _ (Array.getElem?_eq_some_iff.1 (h.res r hr)).1 (ne (h.res r hr) (heap_ne (h.res r hr) h.hx (by decide)) (by decide))).trans (h.res r hr), hx, (hc.block _ z2 (ne h.hy (Ne.symm h.xy) (by decide))).trans h.hy, (hc.block _ z3 (ne h.hw (heap_ne h.hw h.hx (by decide)) (by decide))).trans h.hw, rx, h.ry.chg hc (fun k hk e => ?_) (fun k _ hk e => ?_), h.ow.chg hc (fun k hk e => ?_) (fun k _ hk e => ?_), h.lx, h.ly, h.lw, h.xy, fun k hk => h.nxy k (ho ▸ hk), fun k hk => h.nxw k (ho ▸ hk), h.nyw⟩
  · rcases hk with rfl | hk
    · exact h.lx
    · exact (h.rx.lt k hk).1
  · rcases e with rfl | e
    · obtain ⟨_, _, _, hk⟩ := h.ry.lt _ hk
      exact heap_ne hk h.hx (by decide) rfl
    · exact h.nxy k e hk
  · obtain ⟨_, _, hk⟩ := hk
    rcases e with rfl | e
    · exact heap_ne hk h.hx (by decide) rfl
    · obtain ⟨_, hk'⟩ := hxo _ e
      exact heap_ne hk hk' (by decide) rfl
  · rcases e with rfl | e
    · exact own_ne_blockO h.ow h.hx (by decide) _ hk rfl
    · exact h.nxw k e hk
  · obtain ⟨_, _, hk⟩ := hk
    rcases e with rfl | e
    · exact heap_ne hk h.hx (by decide) rfl
    · obtain ⟨_, hk'⟩ := hxo _ e
      exact heap_ne hk hk' (by decide) rfl
/-- The readers, the one for the other. -/
theorem CInv.swap (h : CInv w wr xb yb wb rs vx vy vw X Y s) : CInv w wr yb xb wb rs vy vx vw Y X s :=
  ⟨h.below, h.res, h.hy, h.hx, h.hw, h.ry, h.rx, h.ow, h.ly, h.lx, h.lw, Ne.symm h.xy, fun k hk e => h.nxy k e hk, h.nyw, h.nxw⟩
theorem CInv.turnY {vy' : Value} {Y' : List Op} (h : CInv w wr xb yb wb rs vx vy vw X Y s) (hc : Chg (fun k => k = yb ∨ vy.ownBlock = some k) wr w') (hy : w'.heap[yb]? = some (.cells (rowCells vy') 130 (0, 0))) (ry : RowO w.heap.size w' vy' Y') (ho : vy'.ownBlock = vy.ownBlock) :
    CInv w w' xb yb wb rs vx vy' vw X Y' s := (h.swap.turnX hc hy ry ho).swap
/-- Behind a method of the writer. -/
theorem CInv.write {s' : List Op × Int} (h : CInv w wr xb yb wb rs vx vy vw X Y s) (hp : PPost w.heap.size wb vw s' wr w') : ∃ vw', CInv w w' xb yb wb rs vx vy vw' X Y s' := by
  obtain ⟨z1, z2, z3⟩ := h.size
  obtain ⟨vw', h1, h2, hc, h4⟩ := hp
  have ne : ∀ {k T : Nat} {cs : Array Value} {fr : Nat × Nat}, wr.heap[k]? = some (.cells cs T fr) → T ≠ 127 → T ≠ 30 → ¬ (k = wb ∨ vw.ownBlock = some k) := fun hk hn hT e => by
    rcases e with rfl | e
    · exact heap_ne hk h.hw hn rfl
    · exact own_ne_blockO h.ow hk hT _ e rfl
  have row : ∀ {v l}, RowO w.heap.size wr v l → (∀ k, v.ownBlock = some k → vw.ownBlock ≠ some k) → RowO w.heap.size w' v l := fun hr hn => hr.chg hc (fun k hk e => by
      rcases e with rfl | e
      · obtain ⟨_, _, _, hk⟩ := hr.lt _ hk
        exact heap_ne hk h.hw (by decide) rfl
      · exact hn k hk e) (fun k _ hk e => by
      obtain ⟨_, _, hk⟩ := hk
      exact ne hk (by decide) (by decide) e)
  have fresh : ∀ {v l}, RowO w.heap.size wr v l → (∀ k, v.ownBlock = some k → vw.ownBlock ≠ some k) → ∀ k, v.ownBlock = some k → vw'.ownBlock ≠ some k := fun hr hn k hk e => by
    rcases h4 with h4 | ⟨j, h4, hj⟩
    · rw [h4] at e; exact hn k hk e
    · rw [h4] at e
      injection e with e
      have := (hr.lt k hk).2.1
      omega
  refine ⟨vw', h.below.trans (hc.below h.below.size fun k hk => ?_), fun r hr => (hc.block _ (Array.getElem?_eq_some_iff.1 (h.res r hr)).1 (ne (h.res r hr) (by decide) (by decide))).trans (h.res r hr), (hc.block _ z1 (ne h.hx (by decide) (by decide))).trans h.hx, (hc.block _ z2 (ne h.hy (by decide) (by decide))).trans h.hy, h1, row h.rx h.nxw, row h.ry h.nyw, h2, h.lx, h.ly, h.lw, h.xy, h.nxy, fresh h.rx h.nxw, fresh h.ry h.nyw⟩
  rcases hk with rfl | hk
  · exact h.lw
  · exact (h.ow.lt k hk).1
/-- Attributes of the call's own lie where neither the writer nor its row does. -/
theorem CInv.apart {va : Value} {la : List Attr} {lo : Nat} (h : CInv w wr xb yb wb rs vx vy vw X Y s) (ha : OwnA lo wr va la) : ∀ k, va.ownBlock = some k → k ≠ wb ∧ vw.ownBlock ≠ some k := fun k hk => by
  obtain ⟨cs, hk'⟩ := ha.block hk
  exact ⟨heap_ne hk' h.hw (by decide), fun e => own_ne_blockO h.ow hk' (by decide) _ e rfl⟩
end
end Go.Proofs.YtaemajcpgmaapaaDoor

namespace Go.Proofs.YtaemajcpgmaapaaDoor
open Go.RowKit

section
variable {w wr : World} {xb yb wb : Nat} {rs : List (Nat × Array Value)} {vx vy vw : Value} {X Y : List Op} {s : List Op × Int}
theorem CInv.headX (h : CInv w wr xb yb wb rs vx vy vw X Y s) {o : Op} (ho : headC X = o) :
    Calls Tryd.prog 116 #[.pointer (some ⟨xb, 0, none⟩)] wr fun e w' => ∃ A c, e = .returned (.agg #[.int .i64 o.kind, .int .i64 o.n, .string o.text, .slice A o.attrs.length c]) ∧ CInv w w' xb yb wb rs vx vy vw X Y s ∧ Fits o.text :=
  (head_any xb w.heap.size vx X wr h.hx h.rx).mono fun e w' hh => by
    obtain ⟨va, rfl, hb, ha, hf⟩ := hh
    rw [ho] at ha hf ⊢
    obtain ⟨A, c, rfl, _⟩ := ha.rd
    exact ⟨A, c, rfl, h.far hb, hf⟩
theorem CInv.headY (h : CInv w wr xb yb wb rs vx vy vw X Y s) {o : Op} (ho : headC Y = o) :
    Calls Tryd.prog 116 #[.pointer (some ⟨yb, 0, none⟩)] wr fun e w' => ∃ A c, e = .returned (.agg #[.int .i64 o.kind, .int .i64 o.n, .string o.text, .slice A o.attrs.length c]) ∧ CInv w w' xb yb wb rs vx vy vw X Y s ∧ Fits o.text :=
  (h.swap.headX ho).mono fun e w' hh => by
    obtain ⟨A, c, rfl, h2, hf⟩ := hh
    exact ⟨A, c, rfl, h2.swap, hf⟩
theorem CInv.long (h : CInv w wr xb yb wb rs vx vy vw X Y s) {o : Op} (hf : Fits o.text) (A : Option Addr) (n c : Nat) :
    Calls Tryd.prog 119 #[.agg #[.int .i64 o.kind, .int .i64 o.n, .string o.text, .slice A n c]] wr fun e w' => e = .returned (.int .i64 (longC o)) ∧ CInv w w' xb yb wb rs vx vy vw X Y s :=
  (longC_any o A n c wr hf).mono fun _ _ hh => ⟨hh.1, h.far hh.2⟩
theorem CInv.takeX (h : CInv w wr xb yb wb rs vx vy vw X Y s) (hT : Tabs wr) {n : Int} (hn : n ≤ 4611686018427387904) {p : Op} {X' : List Op} (e : takeC n X = (p, X')) :
    Calls Tryd.prog 118 #[.pointer (some ⟨xb, 0, none⟩), .int .i64 n] wr fun e w' => ∃ A c, e = .returned (.agg #[.int .i64 p.kind, .int .i64 p.n, .string p.text, .slice A p.attrs.length c]) ∧ CInv w w' xb yb wb rs vx vy vw X' Y s ∧
      OwnA w.heap.size w' (.slice A p.attrs.length c) p.attrs ∧ Fits p.text ∧ Chg (fun k => k = xb ∨ vx.ownBlock = some k) wr w' :=
  (takeC_any xb w.heap.size vx X n wr h.hx h.rx hn hT).mono fun e w' hh => by
    obtain ⟨va, rfl, h1, h2, h3, h4, h5⟩ := hh
    rw [e] at h2 h3 h4 ⊢
    obtain ⟨A, c, rfl, _⟩ := h3.rd
    have h6 : Chg (fun k => k = xb ∨ vx.ownBlock = some k) wr w' := h5.mono fun k _ e => .inr e
    exact ⟨A, c, rfl, h.turnX h6 h1 h2 rfl, h3, h4, h6⟩
theorem CInv.takeY (h : CInv w wr xb yb wb rs vx vy vw X Y s) (hT : Tabs wr) {n : Int} (hn : n ≤ 4611686018427387904) {p : Op} {Y' : List Op} (e : takeC n Y = (p, Y')) :
    Calls Tryd.prog 118 #[.pointer (some ⟨yb, 0, none⟩), .int .i64 n] wr fun e w' => ∃ A c, e = .returned (.agg #[.int .i64 p.kind, .int .i64 p.n, .string p.text, .slice A p.attrs.length c]) ∧ CInv w w' xb yb wb rs vx vy vw X Y' s ∧
      OwnA w.heap.size w' (.slice A p.attrs.length c) p.attrs ∧ Fits p.text ∧ Chg (fun k => k = yb ∨ vy.ownBlock = some k) wr w' :=
  (h.swap.takeX hT hn e).mono fun e w' hh => by
    obtain ⟨A, c, rfl, h1, h2, h3, h4⟩ := hh
    exact ⟨A, c, rfl, h1.swap, h2, h3, h4⟩
/-- Attributes that were taken lie still where the other row is turned. -/
theorem CInv.keepY (h : CInv w wr xb yb wb rs vx vy vw X Y s) {w' : World} {va : Value} {la : List Attr} {lo : Nat} (ha : OwnA lo wr va la) (hc : Chg (fun k => k = yb ∨ vy.ownBlock = some k) wr w') : OwnA lo w' va la :=
  ha.chg hc fun k hk e => by
    obtain ⟨cs, hk'⟩ := ha.block hk
    rcases e with rfl | e
    · exact heap_ne hk' h.hy (by decide) rfl
    · obtain ⟨_, _, _, hh⟩ := h.ry.lt _ e
      exact heap_ne hk' hh (by decide) rfl
theorem CInv.dropX (h : CInv w wr xb yb wb rs vx vy vw X Y s) :
    Calls Tryd.prog 121 #[.pointer (some ⟨xb, 0, none⟩), .func (.func 122) #[] #[]] wr fun e w' => e = .returned (.tuple #[]) ∧ ∃ vx', CInv w w' xb yb wb rs vx' vy vw (dropC X) Y s :=
  (drop_any xb w.heap.size vx X wr h.hx h.rx).mono fun e w' hh => by
    obtain ⟨h0, v', h1, h2, h3, h4⟩ := hh
    exact ⟨h0, v', h.turnX (h3.mono fun k _ e => .inl e) h1 h2 h4⟩
theorem CInv.dropY (h : CInv w wr xb yb wb rs vx vy vw X Y s) :
    Calls Tryd.prog 121 #[.pointer (some ⟨yb, 0, none⟩), .func (.func 122) #[] #[]] wr fun e w' => e = .returned (.tuple #[]) ∧ ∃ vy', CInv w w' xb yb wb rs vx vy' vw X (dropC Y) s :=
  h.swap.dropX.mono fun e w' hh => by
    obtain ⟨h0, v', h1⟩ := hh
    exact ⟨h0, v', h1.swap⟩
theorem CInv.wDel (h : CInv w wr xb yb wb rs vx vy vw X Y s) {p : Op} (hk : p.kind = 3) (A : Option Addr) (m c : Nat) :
    Calls Tryd.prog 117 #[.pointer (some ⟨wb, 0, none⟩), .agg #[.int .i64 p.kind, .int .i64 p.n, .string p.text, .slice A m c]] wr fun e w' => e = .returned (.tuple #[]) ∧ ∃ vw', CInv w w' xb yb wb rs vx vy vw' X Y (s.1, wrap64 (s.2 + p.n)) := by
  rw [hk]
  exact (cDel wb w.heap.size vw s.1 s.2 p.n p.text A m c wr h.hw h.ow).mono fun e w' hh => ⟨hh.1, h.write hh.2⟩
theorem CInv.wIns (h : CInv w wr xb yb wb rs vx vy vw X Y s) {p : Op} (hk : p.kind = 2) {A : Option Addr} {c : Nat} {lo : Nat} (ha : OwnA lo wr (.slice A p.attrs.length c) p.attrs) (hf : Fits p.text)
    (hsz : ∀ x ∈ s.1, x.text.size + p.text.size ≤ 140737488355328) (hlen : (s.1.length + 2) * 56 ≤ 140737488355328) :
    Calls Tryd.prog 117 #[.pointer (some ⟨wb, 0, none⟩), .agg #[.int .i64 p.kind, .int .i64 p.n, .string p.text, .slice A p.attrs.length c]] wr fun e w' => e = .returned (.tuple #[]) ∧ ∃ vw', CInv w w' xb yb wb rs vx vy vw' X Y (putL s.1 p, s.2) := by
  have e : p = ⟨2, p.n, p.text, p.attrs⟩ := by cases p; simp only at hk; rw [hk]
  rw [hk]
  have := cIns wb w.heap.size vw s.1 s.2 p.n p.text (.slice A p.attrs.length c) p.attrs _ wr h.hw h.lw h.ow ha.rd hf hsz hlen
  rw [← e] at this
  exact this.mono fun e w' hh => ⟨hh.1, h.write hh.2⟩
theorem CInv.meet (h : CInv w wr xb yb wb rs vx vy vw X Y s) {p q : Op} {A1 A2 : Option Addr} {c1 c2 l1 l2 : Nat} (hp : OwnA l1 wr (.slice A1 p.attrs.length c1) p.attrs) (hq : OwnA l2 wr (.slice A2 q.attrs.length c2) q.attrs) (hf : Fits p.text)
    (hkp : p.kind = 1 ∨ p.kind = 2) (hkq : q.kind = 1 ∨ q.kind = 3) (hsz : ∀ x ∈ s.1, x.text.size + p.text.size ≤ 140737488355328) (hlen : (s.1.length + 2) * 56 ≤ 140737488355328) :
    Calls Tryd.prog 120 #[.agg #[.int .i64 p.kind, .int .i64 p.n, .string p.text, .slice A1 p.attrs.length c1], .agg #[.int .i64 q.kind, .int .i64 q.n, .string q.text, .slice A2 q.attrs.length c2], .pointer (some ⟨wb, 0, none⟩)] wr
      fun e w' => e = .returned (.int .i64 (meetC p q).2) ∧ ∃ vw', CInv w w' xb yb wb rs vx vy vw' X Y ((meetC p q).1.foldl nStep s) :=
  (cMeet wb w.heap.size l1 l2 vw (.slice A1 p.attrs.length c1) (.slice A2 q.attrs.length c2) s.1 s.2 p q wr h.hw h.lw h.ow hp hq hf hkp hkq hsz hlen).mono fun _ _ hh => ⟨hh.1, h.write hh.2⟩
end
theorem cmp_end {w W : World} (hb : Below w.heap.size w W) (hres : W.heap[w.heap.size + 2]? = some (.cells #[.int .i64 0, .slice none 0 0] 24 (0, 0))) (a : Act) (R : Change × Int) (u : Value)
    (hr : RowO w.heap.size W u R.1.ops) (h7 : a.tmps[5]?.getD undef = .int .i64 R.2) (h6 : a.tmps[4]?.getD undef = .pointer (some ⟨w.heap.size + 2, 0, none⟩)) (hd : a.defers = []) :
    bodyPost Tryd.prog Tryd.f54 (ChQ w R) .ret a ((W.setCell ⟨w.heap.size + 2, 0, none⟩ (.int .i64 R.1.from_)).setCell ⟨w.heap.size + 2, 1, none⟩ u) := by
  have k5 : W.cell? ⟨w.heap.size + 2, 0, none⟩ = some (.int .i64 0) := cell_of_row _ _ 0 _ _ _ hres
  have k6 : W.cell? ⟨w.heap.size + 2, 1, none⟩ = some (.slice none 0 0) := cell_of_row _ _ 1 _ _ _ hres
  have r0 : ((W.setCell ⟨w.heap.size + 2, 0, none⟩ (.int .i64 R.1.from_)).setCell ⟨w.heap.size + 2, 1, none⟩ u).cell? ⟨w.heap.size + 2, 0, none⟩ = some (.int .i64 R.1.from_) := (World.cell?_setCell_other _ _ _ _ (by simp)).trans (World.cell?_setCell_same _ _ _ k5)
  have r1 : ((W.setCell ⟨w.heap.size + 2, 0, none⟩ (.int .i64 R.1.from_)).setCell ⟨w.heap.size + 2, 1, none⟩ u).cell? ⟨w.heap.size + 2, 1, none⟩ = some u := World.cell?_setCell_same _ _ _ ((World.cell?_setCell_other _ _ _ _ (by simp)).trans k6)
  have hc : Chg (fun k => k = w.heap.size + 2) W ((W.setCell ⟨w.heap.size + 2, 0, none⟩ (.int .i64 R.1.from_)).setCell ⟨w.heap.size + 2, 1, none⟩ u) :=
    ((Chg.refl (fun k => k = w.heap.size + 2) W).setCell (p := ⟨w.heap.size + 2, 0, none⟩) _ fun _ => rfl).setCell (p := ⟨w.heap.size + 2, 1, none⟩) _ fun _ => rfl
  refine bodyPost_ret (v := .tuple #[.agg #[.int .i64 R.1.from_, u], .int .i64 R.2]) ?_ hd ⟨u, rfl, hb.trans (hc.below hb.size fun k hk => by rw [hk]; omega), hr.off hres (by decide) (by decide) hc⟩
  simp [results, Tryd.results54, go_sem, r0, r1, h7, h6]
theorem op_field_kind (k n : Int) (s : ByteArray) (va : Value) (w : World) : (Instr.field 30 (.agg #[.int .i64 k, .int .i64 n, .string s, va]) 0).run Tryd.prog w = .ok (.int .i64 k) w := by kernel_rfl
theorem op_field_n (k n : Int) (s : ByteArray) (va : Value) (w : World) : (Instr.field 30 (.agg #[.int .i64 k, .int .i64 n, .string s, va]) 1).run Tryd.prog w = .ok (.int .i64 n) w := by kernel_rfl
/-- What rowOf answers. -/
def RowQ (l : List Op) (w : World) (e : Ending) (w' : World) : Prop :=
  ∃ rb v', e = .returned (.pointer (some ⟨rb, 0, none⟩)) ∧ Below w.heap.size w w' ∧ w.heap.size ≤ rb ∧ w'.heap[rb]? = some (.cells (rowCells v') 130 (0, 0)) ∧ RowO w.heap.size w' v' l
theorem row_q {f : Int} {v : Value} {l : List Op} {S : Nat → Prop} {w : World} (h : Rd KO S w v l) (hT : Tabs w) (hR : Rt ⟨f, l⟩) : Calls Tryd.prog 115 #[.agg #[.int .i64 f, v]] w (RowQ (normL l) w) :=
  (rowOf_any f v l S w h hT).mono fun e w' h => by
    obtain ⟨rb, v', h1, h2, h3, h4, h5⟩ := h
    rw [hR.nm] at h5
    exact ⟨rb, v', h1, h2, h3, h4, h5⟩
end Go.Proofs.YtaemajcpgmaapaaDoor
