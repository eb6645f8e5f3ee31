/- follow: the reader's methods. -/
import Derived.Test.YtaemajcpgmaapaaDoorFoll1
import Derived.Test.YtaemajcpgmaapaaDoorFolP
import Derived.Lib.Hide
namespace Go.Proofs.YtaemajcpgmaapaaDoor
open Go.RowKit

/-- A row stands where a block of another kind alone is written. -/
theorem RowO.off {lo : Nat} {w w' : World} {v : Value} {l : List Op} {rb T : Nat} {cs : Array Value} {fr : Nat × Nat} (h : RowO lo w v l) (hrb : w.heap[rb]? = some (.cells cs T fr)) (hT1 : T ≠ 30) (hT2 : T ≠ 102) (hc : Chg (fun k => k = rb) w w') : RowO lo w' v l := by
  refine h.chg hc (fun k hk e => ?_) (fun k _ hk e => ?_)
  · obtain ⟨_, _, cur, hk⟩ := h.lt k hk
    subst e
    rw [hrb] at hk
    injection hk with hk
    injection hk with _ ht
    exact hT1 ht
  · obtain ⟨cs', fr', hk⟩ := hk
    subst e
    rw [hrb] at hk
    injection hk with hk
    injection hk with _ ht
    exact hT2 ht
theorem OwnA.off {lo : Nat} {w w' : World} {v : Value} {l : List Attr} {rb T : Nat} {cs : Array Value} {fr : Nat × Nat} (h : OwnA lo w v l) (hrb : w.heap[rb]? = some (.cells cs T fr)) (hT2 : T ≠ 102) (hc : Chg (fun k => k = rb) w w') : OwnA lo w' v l :=
  h.chg hc fun k hk e => own_ne_block h.1 hrb (Ne.symm hT2) k hk e
theorem OwnO.off {lo : Nat} {w w' : World} {v : Value} {l : List Op} {rb T : Nat} {cs : Array Value} {fr : Nat × Nat} (h : OwnO lo w v l) (hrb : w.heap[rb]? = some (.cells cs T fr)) (hT1 : T ≠ 30) (hT2 : T ≠ 102) (hc : Chg (fun k => k = rb) w w') : OwnO lo w' v l :=
  h.chg hc (fun k hk e => own_ne_blockO h hrb hT1 k hk e) (fun k _ hk e => by
    obtain ⟨cs', fr', hk⟩ := hk
    subst e
    rw [hrb] at hk
    injection hk with hk
    injection hk with _ ht
    exact hT2 ht)

set_option maxHeartbeats 2000000 in
theorem inserts_any (rb lo : Nat) (v : Value) (l : List Op) (w : World) (hrb : w.heap[rb]? = some (.cells #[v] 79 (0, 0))) (h : RowO lo w v l) :
    Calls Tryd.prog 73 #[.pointer (some ⟨rb, 0, none⟩)] w fun e w' => e = .returned (.bool (insB l)) ∧ w' = w := by
  have c0 : w.cell? ⟨rb, 0, none⟩ = some v := cell_of_row _ _ 0 _ _ _ hrb
  cases l with
  | nil =>
    have hc := h.rd
    obtain ⟨A, c, rfl, _, _⟩ := hc
    simp only [List.length_nil] at *
    have HI : Hid (insB [] = false) := rfl
    go_enter Tryd.func73, Tryd.ntmps73
    go_wp2_with fail
    go_ret
    exact ⟨by rw [HI.out]; rfl, rfl⟩
  | cons x l =>
    obtain ⟨g, off, c, vx, A', c', rfl, hg, hgw, hn, hox, hfx, d0, d1, d2, d3, hfz, _, _, _⟩ := h.head
    have HI : Hid (insB (x :: l) = (x.kind == 2)) := rfl
    cases hk : x.kind == 2 with
    | true =>
      rw [hk] at HI
      go_enter Tryd.func73, Tryd.ntmps73
      go_wp2_with fail
      go_ret
      exact ⟨by rw [HI.out]; rfl, rfl⟩
    | false =>
      rw [hk] at HI
      go_enter Tryd.func73, Tryd.ntmps73
      go_wp2_with fail
      go_ret
      exact ⟨by rw [HI.out]; rfl, rfl⟩

set_option maxHeartbeats 2000000 in
theorem left_any (rb lo : Nat) (v : Value) (l : List Op) (w : World) (hrb : w.heap[rb]? = some (.cells #[v] 79 (0, 0))) (h : RowO lo w v l) :
    Calls Tryd.prog 78 #[.pointer (some ⟨rb, 0, none⟩)] w fun e w' => e = .returned (.int .i64 (leftN l)) ∧ w' = w := by
  have c0 : w.cell? ⟨rb, 0, none⟩ = some v := cell_of_row _ _ 0 _ _ _ hrb
  cases l with
  | nil =>
    have hc := h.rd
    obtain ⟨A, c, rfl, _, _⟩ := hc
    simp only [List.length_nil] at *
    have HI : Hid (leftN [] = 20001) := rfl
    go_enter Tryd.func78, Tryd.ntmps78
    go_wp2_with fail
    go_ret
    exact ⟨by rw [HI.out]; rfl, rfl⟩
  | cons x l =>
    obtain ⟨g, off, c, vx, A', c', rfl, hg, hgw, hn, hox, hfx, d0, d1, d2, d3, hfz, _, _, _⟩ := h.head
    have HI : Hid (leftN (x :: l) = x.n) := rfl
    have hq1 : ((l.length : Int) + 1 == 0) = false := by rw [beq_eq_false_iff_ne]; omega
    go_enter Tryd.func78, Tryd.ntmps78
    go_wp2_with fail
    go_ret
    exact ⟨by rw [HI.out]; rfl, rfl⟩

set_option maxHeartbeats 2000000 in
theorem text_any (rb lo : Nat) (v : Value) (x : Op) (l : List Op) (w : World) (hrb : w.heap[rb]? = some (.cells #[v] 79 (0, 0))) (h : RowO lo w v (x :: l)) :
    Calls Tryd.prog 75 #[.pointer (some ⟨rb, 0, none⟩)] w fun e w' => ∃ vx v', e = .returned (.agg #[.int .i64 x.kind, .int .i64 x.n, .string x.text, vx]) ∧ w'.heap[rb]? = some (.cells #[v'] 79 (0, 0)) ∧
      RowO lo w' v' l ∧ OwnA lo w' vx x.attrs ∧ Chg (fun k => k = rb) w w' ∧ v'.ownBlock = v.ownBlock := by
  have c0 : w.cell? ⟨rb, 0, none⟩ = some v := cell_of_row _ _ 0 _ _ _ hrb
  have hfr : w.frozen? ⟨rb, 0, none⟩ = false := frozen_of_row _ _ 0 _ _ hrb
  have hrbw : rb < w.heap.size := (Array.getElem?_eq_some_iff.1 hrb).1
  obtain ⟨g, off, c, vx, A', c', rfl, hg, hgw, hn, hox, hfx, d0, d1, d2, d3, hfz, hsl, hob, hrow⟩ := h.head
  obtain ⟨A4, c4, rfl, hA4, hr4⟩ := hox.rd
  have hne : g ≠ rb := by
    intro e
    obtain ⟨_, _, cur, hk⟩ := h.lt g rfl
    subst e
    rw [hrb] at hk
    injection hk with hk
    injection hk with _ ht
    exact absurd ht (by decide)
  have ne1 : rb ≠ w.heap.size := by omega
  have ne2 : g ≠ w.heap.size := by omega
  go_enter Tryd.func75, Tryd.ntmps75
  go_wp2_with fail
  have hc1 : Chg (fun k => k = rb) w (w.setCell ⟨rb, 0, none⟩ (.slice A' l.length c')) := (Chg.refl _ _).setCell _ fun _ => rfl
  have hc2 := (hc1.alloc (.cells #[.int .i64 x.kind, .int .i64 x.n, .string x.text, .slice A4 x.attrs.length c4] 30)).alloc (.cells #[.int .i64 x.kind, .int .i64 x.n, .string x.text, .slice A4 x.attrs.length c4] 30)
  refine bodyPost_ret (v := .agg #[.int .i64 x.kind, .int .i64 x.n, .string x.text, .slice A4 x.attrs.length c4]) (by simp [results, Tryd.results75, go_sem]) rfl ⟨.slice A4 x.attrs.length c4, .slice A' l.length c', rfl, ?_, hrow.off hrb (by decide) (by decide) hc2, hox.off hrb (by decide) hc2, hc2, hob⟩
  refine (Below.heap_alloc _ _ _ (by simp; omega)).trans ((Below.heap_alloc _ _ _ (by simpa using hrbw)).trans (heap_setCell_same w rb 0 _ _ _ hrb))

/-- Where the first operation's number is written: the row behind it, and the attributes, stand. -/
theorem RowO.setTail {lo : Nat} {w : World} {g off c : Nat} {x : Op} {l : List Op} (h : RowO lo w (.slice (some ⟨g, off, none⟩) (l.length + 1) c) (x :: l)) (n : Int) {A' : Option Addr} {c' : Nat}
    (hsl : ∀ W, (Instr.slice 22 (.slice (some ⟨g, off, none⟩) (l.length + 1) c) (some (.int .i64 1)) none none).run Tryd.prog W = .ok (.slice A' l.length c') W) :
    RowO lo (w.setCell ⟨g, off + 1, none⟩ (.int .i64 n)) (.slice A' l.length c') l := by
  obtain ⟨g2, off2, c2, vx2, A2, c2', e2, _, _, _, _, _, _, _, _, _, _, hsl2, _, hrow2⟩ := (h.setN n).head
  simp only [Value.slice.injEq, Option.some.injEq, Addr.mk.injEq, and_true, true_and] at e2
  obtain ⟨⟨rfl, rfl⟩, rfl⟩ := e2
  have e3 := (hsl w).symm.trans (hsl2 w)
  injection e3 with e3
  injection e3 with e4 _ e5
  subst e4 e5
  exact hrow2
theorem OwnA.setOp {lo : Nat} {w : World} {g j : Nat} {u : Value} {cur : Array Value} {va : Value} {la : List Attr} (hh : w.heap[g]? = some (.cells cur 30 (0, 0))) (ho : OwnA lo w va la) : OwnA lo (w.setCell ⟨g, j, none⟩ u) va la :=
  ho.off hh (by decide) ((Chg.refl _ _).setCell _ fun _ => rfl)

set_option maxRecDepth 100000 in
set_option maxHeartbeats 4000000 in
theorem take_any (rb lo : Nat) (v : Value) (l : List Op) (n : Int) (w : World) (hrb : w.heap[rb]? = some (.cells #[v] 79 (0, 0))) (h : RowO lo w v l) :
    Calls Tryd.prog 79 #[.pointer (some ⟨rb, 0, none⟩), .int .i64 n] w fun e w' => ∃ vx v', e = .returned (.agg #[.int .i64 (takeO n l).1.kind, .int .i64 (takeO n l).1.n, .string (takeO n l).1.text, vx]) ∧
      w'.heap[rb]? = some (.cells #[v'] 79 (0, 0)) ∧ RowO lo w' v' (takeO n l).2 ∧ OwnA lo w' vx (takeO n l).1.attrs ∧ Chg (fun k => k = rb ∨ v.ownBlock = some k) w w' ∧ v'.ownBlock = v.ownBlock := by
  have c0 : w.cell? ⟨rb, 0, none⟩ = some v := cell_of_row _ _ 0 _ _ _ hrb
  have hfr : w.frozen? ⟨rb, 0, none⟩ = false := frozen_of_row _ _ 0 _ _ hrb
  have hrbw : rb < w.heap.size := (Array.getElem?_eq_some_iff.1 hrb).1
  cases l with
  | nil =>
    have hc := h.rd
    obtain ⟨A, c, rfl, _, _⟩ := hc
    simp only [List.length_nil] at *
    have HT : Hid (takeO n [] = (⟨1, n, ⟨#[]⟩, []⟩, [])) := rfl
    go_enter Tryd.func79, Tryd.ntmps79
    go_wp2_with fail
    rw [HT.out]
    have hb : Below w.heap.size w (w.alloc (.cells #[.int .i64 1, .int .i64 n, .string ⟨#[]⟩, .slice none 0 0] 30)) := (Below.refl _ _).alloc (Nat.le_refl _) _
    exact bodyPost_ret (v := .agg #[.int .i64 1, .int .i64 n, .string ⟨#[]⟩, .slice none 0 0]) (by simp [results, Tryd.results79, go_sem]) rfl ⟨_, _, rfl, (hb.block rb hrbw).trans hrb, h.below hb, OwnA.nil _ _, Chg.of_below hb _, rfl⟩
  | cons x l =>
    obtain ⟨g, off, c, vx, A', c', rfl, hg, hgw, hn, hox, hfx, d0, d1, d2, d3, hfz, hsl, hob, hrow⟩ := h.head
    obtain ⟨A4, c4, rfl, hA4, hr4⟩ := hox.rd
    obtain ⟨_, _, cur, hgc⟩ := h.lt g rfl
    have hne : g ≠ rb := by
      intro e
      subst e
      rw [hrb] at hgc
      injection hgc with hgc
      injection hgc with _ ht
      exact absurd ht (by decide)
    have ne1 : rb ≠ w.heap.size := by omega
    have ne2 : g ≠ w.heap.size := by omega
    have ne3 : rb ≠ w.heap.size + 1 := by omega
    have ne4 : g ≠ w.heap.size + 1 := by omega
    have hq1 : ((l.length : Int) + 1 == 0) = false := by rw [beq_eq_false_iff_ne]; omega
    have hW := h.setN (wrap64 (x.n - n))
    have hT := h.setTail (wrap64 (x.n - n)) hsl
    have hO := hox.setOp (j := off + 1) (u := .int .i64 (wrap64 (x.n - n))) hgc
    have hc1 : Chg (fun k => k = rb ∨ (Value.slice (some ⟨g, off, none⟩) (l.length + 1) c).ownBlock = some k) w (w.setCell ⟨g, off + 1, none⟩ (.int .i64 (wrap64 (x.n - n)))) := (Chg.refl _ _).setCell _ fun _ => .inr rfl
    have hr1 : (w.setCell ⟨g, off + 1, none⟩ (.int .i64 (wrap64 (x.n - n)))).heap[rb]? = some (.cells #[.slice (some ⟨g, off, none⟩) (l.length + 1) c] 79 (0, 0)) := (Below.heap_setCell _ _ _ rb (Ne.symm hne)).trans hrb
    by_cases hz : wrap64 (x.n - n) = 0
    · have hzb : (wrap64 (x.n - n) == 0) = true := by simp [hz]
      have HT : Hid (takeO n (x :: l) = (⟨x.kind, n, x.text, x.attrs⟩, l)) := by unfold Hid takeO; simp only; rw [if_pos hz]
      have HZ := Lib.hid hz
      have H1 := Lib.hid hW
      have H2 := Lib.hid hT
      have H3 := Lib.hid hO
      have H4 := Lib.hid hc1
      have H5 := Lib.hid hr1
      clear hz hW hT hO hc1 hr1
      go_enter Tryd.func79, Tryd.ntmps79
      go_wp2_with fail
      rw [HT.out]
      have q1 : Chg (fun k => k = rb) (w.setCell ⟨g, off + 1, none⟩ (.int .i64 (wrap64 (x.n - n)))) ((w.setCell ⟨g, off + 1, none⟩ (.int .i64 (wrap64 (x.n - n)))).setCell ⟨rb, 0, none⟩ (.slice A' l.length c')) := (Chg.refl _ _).setCell _ fun _ => rfl
      have q2 := (q1.alloc (.cells #[.int .i64 x.kind, .int .i64 n, .string x.text, .slice A4 x.attrs.length c4] 30)).alloc (.cells #[.int .i64 x.kind, .int .i64 n, .string x.text, .slice A4 x.attrs.length c4] 30)
      refine bodyPost_ret (v := .agg #[.int .i64 x.kind, .int .i64 n, .string x.text, .slice A4 x.attrs.length c4]) (by simp [results, Tryd.results79, go_sem]) rfl ⟨_, _, rfl, ?_, H2.out.off H5.out (by decide) (by decide) q2, H3.out.off H5.out (by decide) q2, H4.out.trans q2 fun k _ e => .inl e, hob⟩
      refine (Below.heap_alloc _ _ _ (by simp [World.setCell]; omega)).trans ((Below.heap_alloc _ _ _ (by simp [World.setCell]; omega)).trans (heap_setCell_same _ rb 0 _ _ _ H5.out))
    · have hzb : (wrap64 (x.n - n) == 0) = false := by simp [hz]
      have HT : Hid (takeO n (x :: l) = (⟨x.kind, n, x.text, x.attrs⟩, ⟨x.kind, wrap64 (x.n - n), x.text, x.attrs⟩ :: l)) := by unfold Hid takeO; simp only; rw [if_neg hz]
      have HZ := Lib.hid hz
      have H1 := Lib.hid hW
      have H2 := Lib.hid hT
      have H3 := Lib.hid hO
      have H4 := Lib.hid hc1
      have H5 := Lib.hid hr1
      clear hz hW hT hO hc1 hr1
      go_enter Tryd.func79, Tryd.ntmps79
      go_wp2_with fail
      rw [HT.out]
      have q2 := ((Below.refl (w.setCell ⟨g, off + 1, none⟩ (.int .i64 (wrap64 (x.n - n)))).heap.size (w.setCell ⟨g, off + 1, none⟩ (.int .i64 (wrap64 (x.n - n))))).alloc (Nat.le_refl _) (.cells #[.int .i64 x.kind, .int .i64 n, .string x.text, .slice A4 x.attrs.length c4] 30)).alloc (by simp) (.cells #[.int .i64 x.kind, .int .i64 n, .string x.text, .slice A4 x.attrs.length c4] 30)
      exact bodyPost_ret (v := .agg #[.int .i64 x.kind, .int .i64 n, .string x.text, .slice A4 x.attrs.length c4]) (by simp [results, Tryd.results79, go_sem]) rfl ⟨_, _, rfl, (q2.block rb (by simp [World.setCell]; omega)).trans H5.out, H1.out.below q2, H3.out.below q2, H4.out.trans (Chg.of_below q2 (fun k => k = rb)) fun k _ e => .inl e, rfl⟩
end Go.Proofs.YtaemajcpgmaapaaDoor
