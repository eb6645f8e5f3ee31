/- compose: the row: rowOf, head, used, long. | compose: pen.put. | compose: the pen's flush and write. | compose: the pen's done. | compose: split. -/
import Derived.Test.YtaemajcpgmaapaaDoorPkI
import Derived.Test.YtaemajcpgmaapaaDoorPkH
import Derived.Test.YtaemajcpgmaapaaDoorPkG
import Derived.BigRegion
namespace Go.Proofs.YtaemajcpgmaapaaDoor
open Go.RowKit

/-- A row's cells. -/
def rowCells (v : Value) : Array Value := #[v, .int .i64 1, .int .i64 20001, .string ⟨#[]⟩, .slice none 0 0, .func (.func 159) #[] #[]]

set_option maxHeartbeats 2000000 in
theorem rowOf_any (f : Int) (vo : Value) (l : List Op) (S : Nat → Prop) (w : World) (h : Rd KO S w vo l) (hT : Tabs w) :
    Calls Tryd.prog 115 #[.agg #[.int .i64 f, vo]] w fun e w' => ∃ rb v', e = .returned (.pointer (some ⟨rb, 0, none⟩)) ∧ Below w.heap.size w w' ∧ w.heap.size ≤ rb ∧
      w'.heap[rb]? = some (.cells (rowCells v') 130 (0, 0)) ∧ RowO w.heap.size w' v' (nmR ⟨f, l⟩).1.ops := by
  have cn := normal_ch f vo l S
  obtain ⟨A, c, rfl, hA, hr⟩ := h
  have hb0 : Below w.heap.size w (w.alloc (.cells #[.int .i64 f, .slice A l.length c] 24)) := (Below.refl _ _).alloc (Nat.le_refl _) _
  have cn1 := cn _ (Rd.below ⟨A, c, rfl, hA, hr⟩ hb0) (hT.below hb0)
  obtain ⟨nf, nl, er, HR⟩ : ∃ nf nl er, Hid (nmR ⟨f, l⟩ = (⟨nf, nl⟩, er)) := ⟨_, _, _, rfl⟩
  rw [HR.out] at cn1 ⊢
  have cn2 := Lib.hid cn1
  clear cn cn1
  go_enter Tryd.func115, Tryd.ntmps115
  go_wp2_with fail
  with_reducible refine cn2.out.mono ?_
  rintro e w1 ⟨v1, rfl, hb1, ho1⟩
  have hbw : Below w.heap.size w w1 := hb0.trans (hb1.mono hb0.size)
  have hrd := ho1.rd
  obtain ⟨A1, c1, rfl, hA1, hr1⟩ := hrd
  go_wp2_with fail
  go_ret
  have hba := ((Below.refl w1.heap.size w1).alloc (Nat.le_refl _) (.cells #[.int .i64 nf, .slice A1 nl.length c1] 24))
  refine ⟨w1.heap.size + 1, .slice A1 nl.length c1, rfl, ?_, ?_, ?_, ?_⟩
  · exact (hbw.alloc hbw.size _).alloc (hbw.alloc hbw.size _).size _
  · have := hbw.size; omega
  · unfold rowCells
    simpa using heap_alloc_new (w1.alloc (.cells #[.int .i64 nf, .slice A1 nl.length c1] 24)) (.cells #[.slice A1 nl.length c1, .int .i64 1, .int .i64 20001, .string ⟨#[]⟩, .slice none 0 0, .func (.func 159) #[] #[]] 130)
  · exact (ho1.mono (by simp)).below (hba.alloc (by simp) _)

set_option maxHeartbeats 2000000 in
theorem head_any (rb lo : Nat) (v : Value) (l : List Op) (w : World) (hrb : w.heap[rb]? = some (.cells (rowCells v) 130 (0, 0))) (h : RowO lo w v l) :
    Calls Tryd.prog 116 #[.pointer (some ⟨rb, 0, none⟩)] w fun e w' => ∃ va, e = .returned (opV (headC l) va) ∧ Below w.heap.size w w' ∧ OwnA lo w' va (headC l).attrs ∧ Fits (headC l).text := by
  have c0 : w.cell? ⟨rb, 0, none⟩ = some v := cell_of_row _ _ 0 _ _ _ hrb
  have c1 : w.cell? ⟨rb, 1, none⟩ = some (.int .i64 1) := cell_of_row _ _ 1 _ _ _ hrb
  have c2 : w.cell? ⟨rb, 2, none⟩ = some (.int .i64 20001) := cell_of_row _ _ 2 _ _ _ hrb
  have c3 : w.cell? ⟨rb, 3, none⟩ = some (.string ⟨#[]⟩) := cell_of_row _ _ 3 _ _ _ hrb
  have c4 : w.cell? ⟨rb, 4, none⟩ = some (.slice none 0 0) := cell_of_row _ _ 4 _ _ _ hrb
  have hrbw : rb < w.heap.size := (Array.getElem?_eq_some_iff.1 hrb).1
  have hrn : rb ≠ w.heap.size := by omega
  cases l with
  | nil =>
    have hc := h.rd
    obtain ⟨A, c, rfl, _, _⟩ := hc
    simp only [List.length_nil] at *
    have HI : Hid (headC [] = ⟨1, 20001, ⟨#[]⟩, []⟩) := rfl
    go_enter Tryd.func116, Tryd.ntmps116
    go_wp2_with fail
    rw [HI.out]
    exact bodyPost_ret (v := .agg #[.int .i64 1, .int .i64 20001, .string ⟨#[]⟩, .slice none 0 0]) (by simp [results, Tryd.results116, go_sem]) rfl ⟨_, rfl, (Below.refl _ _).alloc (Nat.le_refl _) _, OwnA.nil _ _, show (0 : Nat) ≤ _ by omega⟩
  | cons x l =>
    obtain ⟨g, off, c, vx, A', c', rfl, hg, hgw, hn, hox, hfx, d0, d1, d2, d3, hfz, _, _, _⟩ := h.head
    obtain ⟨A4, c4', rfl, hA4, hr4⟩ := hox.rd
    have hq1 : ((l.length : Int) + 1 == 0) = false := by rw [beq_eq_false_iff_ne]; omega
    have hgn : g ≠ w.heap.size := by omega
    have HI : Hid (headC (x :: l) = x) := rfl
    go_enter Tryd.func116, Tryd.ntmps116
    go_wp2_with fail
    rw [HI.out]
    have hb : ∀ o, Below w.heap.size w (w.alloc o) := fun o => (Below.refl _ _).alloc (Nat.le_refl _) o
    exact bodyPost_ret (v := .agg #[.int .i64 x.kind, .int .i64 x.n, .string x.text, .slice A4 x.attrs.length c4']) (by simp [results, Tryd.results116, go_sem]) rfl ⟨_, rfl, hb _, hox.below (hb _), hfx⟩

set_option maxHeartbeats 2000000 in
theorem used_any (o : Op) (A : Option Addr) (n c : Nat) (w : World) :
    Calls Tryd.prog 122 #[opV o (.slice A n c)] w fun e w' => e = .returned (.bool (usedC o)) ∧ Below w.heap.size w w' := by
  unfold opV
  by_cases h : o.n = 0
  · have hb : (o.n == 0) = true := by simp [h]
    have HU : Hid (usedC o = o.text.toList.isEmpty) := by unfold Hid usedC; rw [hb]; rfl
    clear h
    go_enter Tryd.func122, Tryd.ntmps122
    go_wp2_with fail
    go_ret
    exact ⟨by rw [HU.out]; rfl, (Below.refl _ _).alloc (Nat.le_refl _) _⟩
  · have hb : (o.n == 0) = false := by simp [h]
    have HU : Hid (usedC o = false) := by unfold Hid usedC; rw [hb]; rfl
    clear h
    go_enter Tryd.func122, Tryd.ntmps122
    go_wp2_with fail
    go_ret
    exact ⟨by rw [HU.out]; rfl, (Below.refl _ _).alloc (Nat.le_refl _) _⟩
set_option maxHeartbeats 2000000 in
theorem longC_any (o : Op) (A : Option Addr) (n c : Nat) (w : World) (hf : Fits o.text) :
    Calls Tryd.prog 119 #[opV o (.slice A n c)] w fun e w' => e = .returned (.int .i64 (longC o)) ∧ Below w.heap.size w w' := by
  have hl2 : o.text.size < 9223372036854775807 := by unfold Fits at hf; omega
  have c1 := fun W => Tryd.utf8_RuneCountInString o.text W hl2
  unfold opV
  by_cases h : o.kind = 2
  · have hb : (o.kind == 2) = true := by simp [h]
    have HU : Hid (longC o = ((Lib.runeCount o.text : Nat) : Int)) := by unfold Hid longC; rw [if_pos h]
    clear h
    go_enter Tryd.func119, Tryd.ntmps119
    go_wp2_with (go_at_call 77; (with_reducible refine (c1 _).mono ?_); rintro e w' ⟨rfl, pos, rfl⟩; unfold World.iter)
    go_ret
    exact ⟨by rw [HU.out]; rfl, ((Below.refl _ _).alloc (Nat.le_refl _) _).alloc (by simp) _⟩
  · have hb : (o.kind == 2) = false := by simp [h]
    have HU : Hid (longC o = o.n) := by unfold Hid longC; rw [if_neg h]
    clear h
    go_enter Tryd.func119, Tryd.ntmps119
    go_wp2_with fail
    go_ret
    exact ⟨by rw [HU.out]; rfl, (Below.refl _ _).alloc (Nat.le_refl _) _⟩
end Go.Proofs.YtaemajcpgmaapaaDoor

namespace Go.Proofs.YtaemajcpgmaapaaDoor
open Go.RowKit

set_option maxRecDepth 100000 in
set_option maxHeartbeats 4000000 in
theorem cPut (rb : Nat) (cs : Array Value) (T : Nat) (v : Value) (l : List Op) (lo : Nat) (kind n : Int) (text : ByteArray) (va : Value) (la : List Attr) (S : Nat → Prop) (w : World)
    (hrb : w.heap[rb]? = some (.cells cs T (0, 0))) (hcs : cs[0]? = some v) (hlo : lo ≤ rb) (hT1 : T ≠ 30) (hT2 : T ≠ 102) (hown : OwnO lo w v l) (hva : Rd KA S w va la) (hft : Fits text)
    (hsz : ∀ x ∈ l, x.text.size + text.size ≤ 140737488355328) (hlen : (l.length + 1) * 56 ≤ 140737488355328) :
    Calls Tryd.prog 161 #[.pointer (some ⟨rb, 0, none⟩), .agg #[.int .i64 kind, .int .i64 n, .string text, va]] w fun e w' => e = .returned (.tuple #[]) ∧
      ∃ v', w'.heap[rb]? = some (.cells (cs.setIfInBounds 0 v') T (0, 0)) ∧ OwnO lo w' v' (putL l ⟨kind, n, text, la⟩) ∧ Chg (fun k => k = rb ∨ v.ownBlock = some k) w w' ∧ (v'.ownBlock = v.ownBlock ∨ ∃ k, v'.ownBlock = some k ∧ w.heap.size ≤ k) := by
  have hrbw : rb < w.heap.size := (Array.getElem?_eq_some_iff.1 hrb).1
  have hc0 : w.cell? ⟨rb, 0, none⟩ = some v := by rw [cell_of_row w rb 0 cs T (0, 0) hrb]; exact hcs
  have hfz : w.frozen? ⟨rb, 0, none⟩ = false := by simp [World.frozen?, hrb]
  obtain ⟨A, c, rfl, hAc, hr⟩ := hown.rd
  rcases List.eq_nil_or_concat l with rfl | ⟨l0, x, rfl⟩
  · obtain ⟨A2, c2, rfl, hA2, hr2⟩ := hva
    simp only [List.length_nil] at *
    go_enter Tryd.func161, Tryd.ntmps161
    go_wp2_with fail
    go_quiet (fail)
    have hb0 : Below w.heap.size w ((w.alloc (.cells #[.int .i64 kind, .int .i64 n, .string text, .slice A2 la.length c2] 30)).drewN nq) := below_drewN ((Below.refl _ _).alloc (Nat.le_refl _) _) _
    have hrd0 := Lib.hid (Rd.below ⟨A2, c2, rfl, hA2, hr2⟩ hb0)
    go_wp2_with (at_builtin; refine wpList_append_attrs0 rfl _ _ rfl la S rfl rfl hrd0.out ?_; intro v3 w1 hb1 ho1; have hq1 := (bcell hb1).1; have hq2 := (bcell hb1).2; have hb1' : Below w.heap.size w w1 := hb0.trans (hb1.mono hb0.size); (have hz1 : w.heap.size < w1.heap.size := by have := hb1.size; simp at this; omega); obtain ⟨A3, c3, rfl, hA3, hr3⟩ := ho1.rd; have hc1 := (hb1'.cell (p := ⟨rb, 0, none⟩) hrbw).trans hc0; have hfz1 := (hb1'.frozen (p := ⟨rb, 0, none⟩) hrbw).trans hfz)
    have hcg : Chg (fun k => k = w.heap.size) w (w1.setCell ⟨w.heap.size, 3, none⟩ (.slice A3 la.length c3)) := (Chg.of_below hb1' _).setCell _ fun _ => rfl
    have ho2 : OwnO lo (w1.setCell ⟨w.heap.size, 3, none⟩ (.slice A3 la.length c3)) _ _ := hown.chg hcg (fun k hk e => by have := (hown.lt k hk).2; omega) (fun k _ hk e => by obtain ⟨_, _, hk⟩ := hk; have := (Array.getElem?_eq_some_iff.1 hk).1; omega)
    have hoa2 : OwnA lo (w1.setCell ⟨w.heap.size, 3, none⟩ (.slice A3 la.length c3)) (.slice A3 la.length c3) la := (ho1.mono (by simp; omega)).chg (X := fun k => k = w.heap.size) ((Chg.refl _ w1).setCell _ fun _ => rfl) (fun k hk e => by have := (ho1.1.lt k hk).1; simp at this; omega)
    have hk0 : (w1.setCell ⟨w.heap.size, 3, none⟩ (.slice A3 la.length c3)).cell? ⟨w.heap.size, 0, none⟩ = some (.int .i64 kind) := (World.cell?_setCell_other _ _ _ _ (by simp)).trans ((hq1 w.heap.size 0 (by simp)).trans (cell_of_row _ w.heap.size 0 _ _ _ (heap_alloc_new w _)))
    have hk1 : (w1.setCell ⟨w.heap.size, 3, none⟩ (.slice A3 la.length c3)).cell? ⟨w.heap.size, 1, none⟩ = some (.int .i64 n) := (World.cell?_setCell_other _ _ _ _ (by simp)).trans ((hq1 w.heap.size 1 (by simp)).trans (cell_of_row _ w.heap.size 1 _ _ _ (heap_alloc_new w _)))
    have hk2 : (w1.setCell ⟨w.heap.size, 3, none⟩ (.slice A3 la.length c3)).cell? ⟨w.heap.size, 2, none⟩ = some (.string text) := (World.cell?_setCell_other _ _ _ _ (by simp)).trans ((hq1 w.heap.size 2 (by simp)).trans (cell_of_row _ w.heap.size 2 _ _ _ (heap_alloc_new w _)))
    have hk3 : (w1.setCell ⟨w.heap.size, 3, none⟩ (.slice A3 la.length c3)).cell? ⟨w.heap.size, 3, none⟩ = some (.slice A3 la.length c3) := World.cell?_setCell_same w1 _ _ ((hq1 w.heap.size 3 (by simp)).trans (cell_of_row _ w.heap.size 3 _ _ _ (heap_alloc_new w _)))
    have hrb2 : (w1.setCell ⟨w.heap.size, 3, none⟩ (.slice A3 la.length c3)).heap[rb]? = some (.cells cs T (0, 0)) := (hcg.block rb hrbw (by omega)).trans hrb
    have hz2 := hcg.size
    have hz3 : w.heap.size < (w1.setCell ⟨w.heap.size, 3, none⟩ (.slice A3 la.length c3)).heap.size := by simp [World.setCell]; omega
    generalize w1.setCell ⟨w.heap.size, 3, none⟩ (.slice A3 la.length c3) = W2 at *
    have hr2 : W2.cell? ⟨rb, 0, none⟩ = some (.slice A 0 c) := by rw [cell_of_row W2 rb 0 cs T (0, 0) hrb2]; exact hcs
    have hf2 : W2.frozen? ⟨rb, 0, none⟩ = false := by simp [World.frozen?, hrb2]
    have q1 : Hid (OwnO lo W2.drew (.slice A 0 c) []) := OwnO.below ho2 (Below.refl _ _).drew
    have q2 : Hid (OwnA lo W2.drew (.slice A3 la.length c3) la) := OwnA.below hoa2 (Below.refl _ _).drew
    have q3 : lo ≤ W2.heap.size := by omega
    have q5 : Hid (putL [] ⟨kind, n, text, la⟩ = [⟨kind, n, text, la⟩]) := rfl
    have q4 : Hid (∀ k, (Value.slice A 0 c).ownBlock = some k → k ≠ rb) := own_ne_blockO ho2 hrb2 hT1
    have hr2a : ∀ o, (W2.alloc o).cell? ⟨rb, 0, none⟩ = some (.slice A 0 c) := fun o => (World.cell?_of_block (Below.heap_alloc W2 o rb (by omega))).trans hr2
    go_region_law ((
      refine step_append_op1 (by rfl) (.tmp 76) (.tmp 78) (by rfl) lo (.slice A 0 c) [] 0 rfl ⟨kind, n, text, la⟩ (.slice A3 la.length c3) W2.heap.size (by simp [Act.eval]) (by simp [Act.eval]) (by simp) q1.out q2.out hft (by rfl) (by decide) (by simpa using q3) ?_
      intro g cap w3 hown3 hgrow hat
      have hrb3 := (hgrow.block rb (by simp; omega) (fun e => q4.out rb e.symm rfl)).trans hrb2
      have hr3 : w3.cell? ⟨rb, 0, none⟩ = some (.slice A 0 c) := (hgrow.cell_far ⟨rb, 0, none⟩ (by simp; omega) (fun e => q4.out rb e.symm rfl)).trans hr2
      have hf3 : w3.frozen? ⟨rb, 0, none⟩ = false := (hgrow.frozen_far ⟨rb, 0, none⟩ (by simp; omega) (fun e => q4.out rb e.symm rfl)).trans hf2))
    all_goals
      go_wp2
      refine bodyPost_end (results_none rfl _ _ _) rfl ⟨rfl, ?_⟩
      exact put_end hrb hcs hT1 hT2 hcg hgrow hrb3 hown3 hat hz2 q5.out
  · rw [List.concat_eq_append] at *
    obtain ⟨A2, c2, rfl, hA2, hr2⟩ := hva
    have e1 : (l0 ++ [x]).length = l0.length + 1 := by simp
    have hx := hsz x (by simp)
    rw [e1] at hcs hown hc0 hlen hAc ⊢
    obtain ⟨g0, rfl⟩ : ∃ g0, A = some ⟨g0, 0, none⟩ := by
      obtain ⟨ps, hps, h1, _, _⟩ := hown
      rcases h1.2 with ⟨h', _⟩ | ⟨g', cap', cur, h', _⟩
      · simp at h'
      · simp at h'
        exact ⟨g', by rw [h'.1]⟩
    obtain ⟨vx, hox, hfx, hx0, hx1, hx2, hx3, hxf⟩ := hown.last
    have hxf0 := hxf
    obtain ⟨A4, c4, rfl, hA4, hr4⟩ := hox.rd
    have hg0w : g0 < w.heap.size := (hown.lt g0 rfl).2
    have hwr : IntKind.i64.wrap ((l0.length + 1 : Nat) - 1 : Int) = l0.length := by have := hlen; rw [show ((l0.length + 1 : Nat) - 1 : Int) = (l0.length : Int) by omega, IntKind.wrap_i64]; omega
    have hwr2 : IntKind.i64.wrap ((l0.length : Int) + 1 - 1) = l0.length := by have := hlen; rw [show ((l0.length : Int) + 1 - 1) = (l0.length : Int) by omega, IntKind.wrap_i64]; omega
    have hlt1 : (l0.length : Int) < (l0.length + 1 : Nat) := by omega
    have hlt2 : (l0.length : Int) < (l0.length : Int) + 1 := by omega
    have hlt3 : (0 : Int) ≤ (l0.length : Int) := by omega
    have hgt : decide ((0 : Int) < (l0.length + 1 : Nat)) = true := by simp
    have cq := same_q (.slice A4 x.attrs.length c4) (.slice A2 la.length c2) x.attrs la (fun k => lo ≤ k) S
    by_cases hkd : x.kind = kind
    · cases hat : attrsEq x.attrs la with
      | true =>
        rw [hat] at cq
        subst hkd
        have hke : (x.kind == x.kind) = true := by simp
        go_enter Tryd.func161, Tryd.ntmps161
        go_wp2_with fail
        go_quiet (first | (go_at_call 98; refine Calls.quiet_of (cq _ ?_ ?_); exact Rd.below ⟨A4, c4, rfl, hA4, hr4⟩ (below_drewN ((Below.refl _ _).alloc (Nat.le_refl _) _) _); exact Rd.below ⟨A2, c2, rfl, hA2, hr2⟩ (below_drewN ((Below.refl _ _).alloc (Nat.le_refl _) _) _)))
        have hb0 : Below w.heap.size w ((w.alloc (.cells #[.int .i64 x.kind, .int .i64 n, .string text, .slice A2 la.length c2] 30)).drewN nq) := below_drewN ((Below.refl _ _).alloc (Nat.le_refl _) _) _
        have p1 := (hb0.cell (p := ⟨rb, 0, none⟩) hrbw).trans hc0
        have p2 := (hb0.frozen (p := ⟨rb, 0, none⟩) hrbw).trans hfz
        have p3 := (hb0.cell (p := ⟨g0, l0.length * 4 + 1, none⟩) hg0w).trans hx1
        have p4 := (hb0.cell (p := ⟨g0, l0.length * 4 + 2, none⟩) hg0w).trans hx2
        have p5 := (hb0.frozen (p := ⟨g0, l0.length * 4 + 1, none⟩) hg0w).trans (hxf _)
        have p6 := (hb0.frozen (p := ⟨g0, l0.length * 4 + 2, none⟩) hg0w).trans (hxf _)
        have p7 : ((w.alloc (.cells #[.int .i64 x.kind, .int .i64 n, .string text, .slice A2 la.length c2] 30)).drewN nq).cell? ⟨w.heap.size, 1, none⟩ = some (.int .i64 n) := cell_of_row _ w.heap.size 1 _ _ _ (heap_alloc_new w _)
        have p8 : ((w.alloc (.cells #[.int .i64 x.kind, .int .i64 n, .string text, .slice A2 la.length c2] 30)).drewN nq).cell? ⟨w.heap.size, 2, none⟩ = some (.string text) := cell_of_row _ w.heap.size 2 _ _ _ (heap_alloc_new w _)
        have ne1 : g0 ≠ rb := own_ne_blockO hown hrb hT1 g0 rfl
        have ne2 : g0 ≠ w.heap.size := by omega
        have ne3 : rb ≠ w.heap.size := by omega
        generalize ((w.alloc (.cells #[.int .i64 x.kind, .int .i64 n, .string text, .slice A2 la.length c2] 30)).drewN nq) = W1 at *
        go_wp2_with fail
        go_region
        have p9 : (W1.setCell ⟨g0, l0.length * 4 + 1, none⟩ (.int .i64 (wrap64 (x.n + n)))).cell? ⟨rb, 0, none⟩ = some (.slice (some ⟨g0, 0, none⟩) (l0.length + 1) c) := (World.cell?_setCell_other _ _ _ _ (by simp)).trans p1
        have p10 : (W1.setCell ⟨g0, l0.length * 4 + 1, none⟩ (.int .i64 (wrap64 (x.n + n)))).cell? ⟨g0, l0.length * 4 + 2, none⟩ = some (.string x.text) := (World.cell?_setCell_other _ _ _ _ (by simp)).trans p4
        have p11 : (W1.setCell ⟨g0, l0.length * 4 + 1, none⟩ (.int .i64 (wrap64 (x.n + n)))).cell? ⟨w.heap.size, 2, none⟩ = some (.string text) := (World.cell?_setCell_other _ _ _ _ (by simp)).trans p8
        have p12 : (W1.setCell ⟨g0, l0.length * 4 + 1, none⟩ (.int .i64 (wrap64 (x.n + n)))).frozen? ⟨g0, l0.length * 4 + 2, none⟩ = false := by simp [p6]
        go_wp2_with fail
        go_region
        go_wp2_with fail
        refine bodyPost_ret (results_none rfl _ _ _) rfl ⟨rfl, ?_⟩
        exact put_join hrb hcs hT1 hown hb0 hx hat rfl rfl
      | false =>
        rw [hat] at cq
        have hno : (x.kind == kind && attrsEq x.attrs la) = false := by simp [hat]
        have hke : (x.kind == kind) = true := by simp [hkd]
        go_enter Tryd.func161, Tryd.ntmps161
        go_wp2_with fail
        go_quiet (first | (go_at_call 98; refine Calls.quiet_of (cq _ ?_ ?_); exact Rd.below ⟨A4, c4, rfl, hA4, hr4⟩ (below_drewN ((Below.refl _ _).alloc (Nat.le_refl _) _) _); exact Rd.below ⟨A2, c2, rfl, hA2, hr2⟩ (below_drewN ((Below.refl _ _).alloc (Nat.le_refl _) _) _)))
        have hb0 : Below w.heap.size w ((w.alloc (.cells #[.int .i64 kind, .int .i64 n, .string text, .slice A2 la.length c2] 30)).drewN nq) := below_drewN ((Below.refl _ _).alloc (Nat.le_refl _) _) _
        have hrd0 := Lib.hid (Rd.below ⟨A2, c2, rfl, hA2, hr2⟩ hb0)
        go_wp2_with (at_builtin; refine wpList_append_attrs0 rfl _ _ rfl la S rfl rfl hrd0.out ?_; intro v3 w1 hb1 ho1; have hq1 := (bcell hb1).1; have hq2 := (bcell hb1).2; have hb1' : Below w.heap.size w w1 := hb0.trans (hb1.mono hb0.size); (have hz1 : w.heap.size < w1.heap.size := by have := hb1.size; simp at this; omega); obtain ⟨A3, c3, rfl, hA3, hr3⟩ := ho1.rd; have hc1 := (hb1'.cell (p := ⟨rb, 0, none⟩) hrbw).trans hc0; have hfz1 := (hb1'.frozen (p := ⟨rb, 0, none⟩) hrbw).trans hfz)
        have hcg : Chg (fun k => k = w.heap.size) w (w1.setCell ⟨w.heap.size, 3, none⟩ (.slice A3 la.length c3)) := (Chg.of_below hb1' _).setCell _ fun _ => rfl
        have ho2 : OwnO lo (w1.setCell ⟨w.heap.size, 3, none⟩ (.slice A3 la.length c3)) _ _ := hown.chg hcg (fun k hk e => by have := (hown.lt k hk).2; omega) (fun k _ hk e => by obtain ⟨_, _, hk⟩ := hk; have := (Array.getElem?_eq_some_iff.1 hk).1; omega)
        have hoa2 : OwnA lo (w1.setCell ⟨w.heap.size, 3, none⟩ (.slice A3 la.length c3)) (.slice A3 la.length c3) la := (ho1.mono (by simp; omega)).chg (X := fun k => k = w.heap.size) ((Chg.refl _ w1).setCell _ fun _ => rfl) (fun k hk e => by have := (ho1.1.lt k hk).1; simp at this; omega)
        have hk0 : (w1.setCell ⟨w.heap.size, 3, none⟩ (.slice A3 la.length c3)).cell? ⟨w.heap.size, 0, none⟩ = some (.int .i64 kind) := (World.cell?_setCell_other _ _ _ _ (by simp)).trans ((hq1 w.heap.size 0 (by simp)).trans (cell_of_row _ w.heap.size 0 _ _ _ (heap_alloc_new w _)))
        have hk1 : (w1.setCell ⟨w.heap.size, 3, none⟩ (.slice A3 la.length c3)).cell? ⟨w.heap.size, 1, none⟩ = some (.int .i64 n) := (World.cell?_setCell_other _ _ _ _ (by simp)).trans ((hq1 w.heap.size 1 (by simp)).trans (cell_of_row _ w.heap.size 1 _ _ _ (heap_alloc_new w _)))
        have hk2 : (w1.setCell ⟨w.heap.size, 3, none⟩ (.slice A3 la.length c3)).cell? ⟨w.heap.size, 2, none⟩ = some (.string text) := (World.cell?_setCell_other _ _ _ _ (by simp)).trans ((hq1 w.heap.size 2 (by simp)).trans (cell_of_row _ w.heap.size 2 _ _ _ (heap_alloc_new w _)))
        have hk3 : (w1.setCell ⟨w.heap.size, 3, none⟩ (.slice A3 la.length c3)).cell? ⟨w.heap.size, 3, none⟩ = some (.slice A3 la.length c3) := World.cell?_setCell_same w1 _ _ ((hq1 w.heap.size 3 (by simp)).trans (cell_of_row _ w.heap.size 3 _ _ _ (heap_alloc_new w _)))
        have hrb2 : (w1.setCell ⟨w.heap.size, 3, none⟩ (.slice A3 la.length c3)).heap[rb]? = some (.cells cs T (0, 0)) := (hcg.block rb hrbw (by omega)).trans hrb
        have hz2 := hcg.size
        have hz3 : w.heap.size < (w1.setCell ⟨w.heap.size, 3, none⟩ (.slice A3 la.length c3)).heap.size := by simp [World.setCell]; omega
        generalize w1.setCell ⟨w.heap.size, 3, none⟩ (.slice A3 la.length c3) = W2 at *
        have hr2' : W2.cell? ⟨rb, 0, none⟩ = some (.slice (some ⟨g0, 0, none⟩) (l0.length + 1) c) := by rw [cell_of_row W2 rb 0 cs T (0, 0) hrb2]; exact hcs
        have hf2 : W2.frozen? ⟨rb, 0, none⟩ = false := by simp [World.frozen?, hrb2]
        have q1 : Hid (OwnO lo W2.drew (.slice (some ⟨g0, 0, none⟩) (l0.length + 1) c) (l0 ++ [x])) := OwnO.below ho2 (Below.refl _ _).drew
        have q2 : Hid (OwnA lo W2.drew (.slice A3 la.length c3) la) := OwnA.below hoa2 (Below.refl _ _).drew
        have q3 : lo ≤ W2.heap.size := by omega
        have q5 : Hid (putL (l0 ++ [x]) ⟨kind, n, text, la⟩ = (l0 ++ [x]) ++ [⟨kind, n, text, la⟩]) := by unfold Hid; simp [putL, opLike, hno]
        have q4 : Hid (∀ k, (Value.slice (some ⟨g0, 0, none⟩) (l0.length + 1) c).ownBlock = some k → k ≠ rb) := own_ne_blockO ho2 hrb2 hT1
        have hr2a : ∀ o, (W2.alloc o).cell? ⟨rb, 0, none⟩ = some (.slice (some ⟨g0, 0, none⟩) (l0.length + 1) c) := fun o => (World.cell?_of_block (Below.heap_alloc W2 o rb (by omega))).trans hr2'
        go_region_law ((
          refine step_append_op1 (by rfl) (.tmp 76) (.tmp 78) (by rfl) lo (.slice (some ⟨g0, 0, none⟩) (l0.length + 1) c) (l0 ++ [x]) (l0.length + 1) e1 ⟨kind, n, text, la⟩ (.slice A3 la.length c3) W2.heap.size (by simp [Act.eval]) (by simp [Act.eval]) (by simp) q1.out q2.out hft (by rfl) hlen (by simpa using q3) ?_
          intro g cap w3 hown3 hgrow hat
          have hrb3 := (hgrow.block rb (by simp; omega) (fun e => q4.out rb e.symm rfl)).trans hrb2
          have hr3 : w3.cell? ⟨rb, 0, none⟩ = some (.slice (some ⟨g0, 0, none⟩) (l0.length + 1) c) := (hgrow.cell_far ⟨rb, 0, none⟩ (by simp; omega) (fun e => q4.out rb e.symm rfl)).trans hr2'
          have hf3 : w3.frozen? ⟨rb, 0, none⟩ = false := (hgrow.frozen_far ⟨rb, 0, none⟩ (by simp; omega) (fun e => q4.out rb e.symm rfl)).trans hf2))
        all_goals
          go_wp2
          refine bodyPost_end (results_none rfl _ _ _) rfl ⟨rfl, ?_⟩
          exact put_end hrb hcs hT1 hT2 hcg hgrow hrb3 hown3 hat hz2 q5.out
    · have hno : (x.kind == kind && attrsEq x.attrs la) = false := by simp [hkd]
      have hke : (x.kind == kind) = false := by simp [hkd]
      go_enter Tryd.func161, Tryd.ntmps161
      go_wp2_with fail
      go_quiet (fail)
      have hb0 : Below w.heap.size w ((w.alloc (.cells #[.int .i64 kind, .int .i64 n, .string text, .slice A2 la.length c2] 30)).drewN nq) := below_drewN ((Below.refl _ _).alloc (Nat.le_refl _) _) _
      have hrd0 := Lib.hid (Rd.below ⟨A2, c2, rfl, hA2, hr2⟩ hb0)
      go_wp2_with (at_builtin; refine wpList_append_attrs0 rfl _ _ rfl la S rfl rfl hrd0.out ?_; intro v3 w1 hb1 ho1; have hq1 := (bcell hb1).1; have hq2 := (bcell hb1).2; have hb1' : Below w.heap.size w w1 := hb0.trans (hb1.mono hb0.size); (have hz1 : w.heap.size < w1.heap.size := by have := hb1.size; simp at this; omega); obtain ⟨A3, c3, rfl, hA3, hr3⟩ := ho1.rd; have hc1 := (hb1'.cell (p := ⟨rb, 0, none⟩) hrbw).trans hc0; have hfz1 := (hb1'.frozen (p := ⟨rb, 0, none⟩) hrbw).trans hfz)
      have hcg : Chg (fun k => k = w.heap.size) w (w1.setCell ⟨w.heap.size, 3, none⟩ (.slice A3 la.length c3)) := (Chg.of_below hb1' _).setCell _ fun _ => rfl
      have ho2 : OwnO lo (w1.setCell ⟨w.heap.size, 3, none⟩ (.slice A3 la.length c3)) _ _ := hown.chg hcg (fun k hk e => by have := (hown.lt k hk).2; omega) (fun k _ hk e => by obtain ⟨_, _, hk⟩ := hk; have := (Array.getElem?_eq_some_iff.1 hk).1; omega)
      have hoa2 : OwnA lo (w1.setCell ⟨w.heap.size, 3, none⟩ (.slice A3 la.length c3)) (.slice A3 la.length c3) la := (ho1.mono (by simp; omega)).chg (X := fun k => k = w.heap.size) ((Chg.refl _ w1).setCell _ fun _ => rfl) (fun k hk e => by have := (ho1.1.lt k hk).1; simp at this; omega)
      have hk0 : (w1.setCell ⟨w.heap.size, 3, none⟩ (.slice A3 la.length c3)).cell? ⟨w.heap.size, 0, none⟩ = some (.int .i64 kind) := (World.cell?_setCell_other _ _ _ _ (by simp)).trans ((hq1 w.heap.size 0 (by simp)).trans (cell_of_row _ w.heap.size 0 _ _ _ (heap_alloc_new w _)))
      have hk1 : (w1.setCell ⟨w.heap.size, 3, none⟩ (.slice A3 la.length c3)).cell? ⟨w.heap.size, 1, none⟩ = some (.int .i64 n) := (World.cell?_setCell_other _ _ _ _ (by simp)).trans ((hq1 w.heap.size 1 (by simp)).trans (cell_of_row _ w.heap.size 1 _ _ _ (heap_alloc_new w _)))
      have hk2 : (w1.setCell ⟨w.heap.size, 3, none⟩ (.slice A3 la.length c3)).cell? ⟨w.heap.size, 2, none⟩ = some (.string text) := (World.cell?_setCell_other _ _ _ _ (by simp)).trans ((hq1 w.heap.size 2 (by simp)).trans (cell_of_row _ w.heap.size 2 _ _ _ (heap_alloc_new w _)))
      have hk3 : (w1.setCell ⟨w.heap.size, 3, none⟩ (.slice A3 la.length c3)).cell? ⟨w.heap.size, 3, none⟩ = some (.slice A3 la.length c3) := World.cell?_setCell_same w1 _ _ ((hq1 w.heap.size 3 (by simp)).trans (cell_of_row _ w.heap.size 3 _ _ _ (heap_alloc_new w _)))
      have hrb2 : (w1.setCell ⟨w.heap.size, 3, none⟩ (.slice A3 la.length c3)).heap[rb]? = some (.cells cs T (0, 0)) := (hcg.block rb hrbw (by omega)).trans hrb
      have hz2 := hcg.size
      have hz3 : w.heap.size < (w1.setCell ⟨w.heap.size, 3, none⟩ (.slice A3 la.length c3)).heap.size := by simp [World.setCell]; omega
      generalize w1.setCell ⟨w.heap.size, 3, none⟩ (.slice A3 la.length c3) = W2 at *
      have hr2' : W2.cell? ⟨rb, 0, none⟩ = some (.slice (some ⟨g0, 0, none⟩) (l0.length + 1) c) := by rw [cell_of_row W2 rb 0 cs T (0, 0) hrb2]; exact hcs
      have hf2 : W2.frozen? ⟨rb, 0, none⟩ = false := by simp [World.frozen?, hrb2]
      have q1 : Hid (OwnO lo W2.drew (.slice (some ⟨g0, 0, none⟩) (l0.length + 1) c) (l0 ++ [x])) := OwnO.below ho2 (Below.refl _ _).drew
      have q2 : Hid (OwnA lo W2.drew (.slice A3 la.length c3) la) := OwnA.below hoa2 (Below.refl _ _).drew
      have q3 : lo ≤ W2.heap.size := by omega
      have q5 : Hid (putL (l0 ++ [x]) ⟨kind, n, text, la⟩ = (l0 ++ [x]) ++ [⟨kind, n, text, la⟩]) := by unfold Hid; simp [putL, opLike, hno]
      have q4 : Hid (∀ k, (Value.slice (some ⟨g0, 0, none⟩) (l0.length + 1) c).ownBlock = some k → k ≠ rb) := own_ne_blockO ho2 hrb2 hT1
      have hr2a : ∀ o, (W2.alloc o).cell? ⟨rb, 0, none⟩ = some (.slice (some ⟨g0, 0, none⟩) (l0.length + 1) c) := fun o => (World.cell?_of_block (Below.heap_alloc W2 o rb (by omega))).trans hr2'
      go_region_law ((
        refine step_append_op1 (by rfl) (.tmp 76) (.tmp 78) (by rfl) lo (.slice (some ⟨g0, 0, none⟩) (l0.length + 1) c) (l0 ++ [x]) (l0.length + 1) e1 ⟨kind, n, text, la⟩ (.slice A3 la.length c3) W2.heap.size (by simp [Act.eval]) (by simp [Act.eval]) (by simp) q1.out q2.out hft (by rfl) hlen (by simpa using q3) ?_
        intro g cap w3 hown3 hgrow hat
        have hrb3 := (hgrow.block rb (by simp; omega) (fun e => q4.out rb e.symm rfl)).trans hrb2
        have hr3 : w3.cell? ⟨rb, 0, none⟩ = some (.slice (some ⟨g0, 0, none⟩) (l0.length + 1) c) := (hgrow.cell_far ⟨rb, 0, none⟩ (by simp; omega) (fun e => q4.out rb e.symm rfl)).trans hr2'
        have hf3 : w3.frozen? ⟨rb, 0, none⟩ = false := (hgrow.frozen_far ⟨rb, 0, none⟩ (by simp; omega) (fun e => q4.out rb e.symm rfl)).trans hf2))
      all_goals
        go_wp2
        refine bodyPost_end (results_none rfl _ _ _) rfl ⟨rfl, ?_⟩
        exact put_end hrb hcs hT1 hT2 hcg hgrow hrb3 hown3 hat hz2 q5.out
end Go.Proofs.YtaemajcpgmaapaaDoor

namespace Go.Proofs.YtaemajcpgmaapaaDoor
open Go.RowKit

/-- What a method of the pen leaves. -/
def PPost (lo wb : Nat) (v : Value) (s : List Op × Int) (w w' : World) : Prop :=
  ∃ v', w'.heap[wb]? = some (.cells #[v', .int .i64 s.2] 127 (0, 0)) ∧ OwnO lo w' v' s.1 ∧ Chg (fun k => k = wb ∨ v.ownBlock = some k) w w' ∧ (v'.ownBlock = v.ownBlock ∨ ∃ k, v'.ownBlock = some k ∧ w.heap.size ≤ k)
theorem OwnO.offP {lo wb : Nat} {w w' : World} {v : Value} {l : List Op} {cs : Array Value} (h : OwnO lo w v l) (hmb : w.heap[wb]? = some (.cells cs 127 (0, 0))) (hc : Chg (fun k => k = wb) w w') : OwnO lo w' v l :=
  h.off hmb (by decide) (by decide) hc
theorem PPost.trans {lo wb : Nat} {v : Value} {s' : List Op × Int} {w w1 w2 : World} {v1 : Value} (hc : Chg (fun k => k = wb ∨ v.ownBlock = some k) w w1) (hv : v1.ownBlock = v.ownBlock ∨ ∃ k, v1.ownBlock = some k ∧ w.heap.size ≤ k) (h : PPost lo wb v1 s' w1 w2) : PPost lo wb v s' w w2 := by
  obtain ⟨v2, h1, h2, h3, h4⟩ := h
  refine ⟨v2, h1, h2, hc.trans h3 fun k hk e => ?_, ?_⟩
  · rcases e with e | e
    · exact .inl e
    · rcases hv with hv | ⟨j, hv, hj⟩
      · exact .inr (by rw [← hv]; exact e)
      · rw [hv] at e; injection e with e; omega
  · rcases h4 with h4 | ⟨j, h4, hj⟩
    · rcases hv with hv | ⟨j, hv, hj⟩
      · exact .inl (h4.trans hv)
      · exact .inr ⟨j, h4.trans hv, hj⟩
    · exact .inr ⟨j, h4, by have := hc.size; omega⟩

set_option maxRecDepth 100000 in
set_option maxHeartbeats 1000000 in
theorem cFlush (wb lo : Nat) (v : Value) (l : List Op) (gone : Int) (w : World)
    (hmb : w.heap[wb]? = some (.cells #[v, .int .i64 gone] 127 (0, 0))) (hlo : lo ≤ wb) (hown : OwnO lo w v l) (hlen : (l.length + 1) * 56 ≤ 140737488355328) :
    Calls Tryd.prog 160 #[.pointer (some ⟨wb, 0, none⟩)] w fun e w' => e = .returned (.tuple #[]) ∧ PPost lo wb v (flushL (l, gone)) w w' := by
  have hsz := hown.fits
  have c1 : w.cell? ⟨wb, 1, none⟩ = some (.int .i64 gone) := by rw [cell_of_row w wb 1 _ 127 (0, 0) hmb]; rfl
  by_cases hg : 0 < gone
  · have hd : decide (0 < gone) = true := by simp [hg]
    have HF : Hid (flushL (l, gone) = (putL l ⟨3, gone, ⟨#[]⟩, []⟩, 0)) := by unfold Hid flushL; rw [if_pos hg]
    have hput := cPut wb #[v, .int .i64 gone] 127 v l lo 3 gone ⟨#[]⟩ (.slice none 0 0) [] (fun _ => True) w hmb rfl hlo (by decide) (by decide) hown (Rd.nil _ _ _ _ _ (by simp)) (by show (0 : Nat) ≤ _; omega) (fun x hx => by show x.text.size + 0 ≤ _; have := hsz x hx; unfold Fits at this; omega) hlen
    go_enter Tryd.func160, Tryd.ntmps160
    go_wp2_with fail
    with_reducible refine hput.mono ?_
    rintro e w1 ⟨rfl, v', hmb1, ho1, hc1, hv1⟩
    have k1 : w1.cell? ⟨wb, 1, none⟩ = some (.int .i64 gone) := cell_of_row _ wb 1 _ 127 (0, 0) hmb1
    have k2 : w1.frozen? ⟨wb, 1, none⟩ = false := by simp [World.frozen?, hmb1]
    go_wp2_with fail
    refine bodyPost_end (results_none rfl _ _ _) rfl ⟨rfl, ?_⟩
    rw [HF.out]
    have hs : Chg (fun k => k = wb) w1 (w1.setCell ⟨wb, 1, none⟩ (.int .i64 0)) := (Chg.refl _ _).setCell _ fun _ => rfl
    exact ⟨v', heap_setCell_same w1 wb 1 _ _ _ hmb1, ho1.offP hmb1 hs, hc1.trans hs fun k _ e => .inl e, hv1⟩
  · have hd : decide (0 < gone) = false := by simp [hg]
    have HF : Hid (flushL (l, gone) = (l, gone)) := by unfold Hid flushL; rw [if_neg hg]
    go_enter Tryd.func160, Tryd.ntmps160
    go_wp2_with fail
    refine bodyPost_end (results_none rfl _ _ _) rfl ⟨rfl, v, ?_⟩
    rw [HF.out]
    exact ⟨hmb, hown, Chg.refl _ _, .inl rfl⟩

set_option maxRecDepth 100000 in
set_option maxHeartbeats 1000000 in
theorem cKeep (wb lo : Nat) (v : Value) (l : List Op) (gone : Int) (n : Int) (text : ByteArray) (va : Value) (la : List Attr) (S : Nat → Prop) (w : World)
    (hmb : w.heap[wb]? = some (.cells #[v, .int .i64 gone] 127 (0, 0))) (hlo : lo ≤ wb) (hown : OwnO lo w v l) (hva : Rd KA S w va la) (hS : ∀ k, S k → k ≠ wb ∧ v.ownBlock ≠ some k) (hft : Fits text)
    (hsz : ∀ x ∈ l, x.text.size + text.size ≤ 140737488355328) (hlen : (l.length + 2) * 56 ≤ 140737488355328) :
    Calls Tryd.prog 117 #[.pointer (some ⟨wb, 0, none⟩), .agg #[.int .i64 1, .int .i64 n, .string text, va]] w fun e w' => e = .returned (.tuple #[]) ∧ PPost lo wb v (putL (flushL (l, gone)).1 ⟨1, n, text, la⟩, (flushL (l, gone)).2) w w' := by
  have hwb : wb < w.heap.size := (Array.getElem?_eq_some_iff.1 hmb).1
  obtain ⟨A2, c2, rfl, hA2, hr2⟩ := hva
  have hb0 : Below w.heap.size w (w.alloc (.cells #[.int .i64 1, .int .i64 n, .string text, .slice A2 la.length c2] 30)) := (Below.refl _ _).alloc (Nat.le_refl _) _
  have hfl := cFlush wb lo v l gone _ ((hb0.block wb hwb).trans hmb) hlo (hown.below hb0) (by omega)
  have hfb := flushL_bd (s := (l, gone)) (M := 140737488355328 - text.size) (fun x hx => by have := hsz x hx; omega)
  have hownlt := hown.lt
  generalize flushL (l, gone) = fs at *
  obtain ⟨fl, fg⟩ := fs
  have hbxc := heap_alloc_new w (.cells #[.int .i64 1, .int .i64 n, .string text, .slice A2 la.length c2] 30)
  go_enter Tryd.func117, Tryd.ntmps117
  go_wp2_with fail
  with_reducible refine hfl.mono ?_
  rintro e w3 ⟨rfl, v3, hm3, ho3, hc3, hv3⟩
  dsimp only at hm3 ho3
  have hbx3 : w3.heap[w.heap.size]? = some (.cells #[.int .i64 1, .int .i64 n, .string text, .slice A2 la.length c2] 30 (0, 0)) :=
    (hc3.block w.heap.size (by simp) (fun e => e.elim (fun e => by omega) (fun e => by have := (hownlt _ e).2; omega))).trans hbxc
  have j0 : w3.cell? ⟨w.heap.size, 0, none⟩ = some (.int .i64 1) := cell_of_row w3 _ 0 _ _ _ hbx3
  have j1 : w3.cell? ⟨w.heap.size, 1, none⟩ = some (.int .i64 n) := cell_of_row w3 _ 1 _ _ _ hbx3
  have j2 : w3.cell? ⟨w.heap.size, 2, none⟩ = some (.string text) := cell_of_row w3 _ 2 _ _ _ hbx3
  have j3 : w3.cell? ⟨w.heap.size, 3, none⟩ = some (.slice A2 la.length c2) := cell_of_row w3 _ 3 _ _ _ hbx3
  have hcw : Chg (fun k => k = wb ∨ v.ownBlock = some k) w w3 := (Chg.of_below hb0 _).trans hc3 fun _ _ h => h
  have hv4 : v3.ownBlock = v.ownBlock ∨ ∃ k, v3.ownBlock = some k ∧ w.heap.size ≤ k := hv3.imp id fun ⟨k, h1, h2⟩ => ⟨k, h1, by simp at h2; omega⟩
  have hput := cPut wb #[v3, .int .i64 fg] 127 v3 fl lo 1 n text (.slice A2 la.length c2) la S w3 hm3 rfl hlo (by decide) (by decide) ho3 (Rd.chg ⟨A2, c2, rfl, hA2, hr2⟩ hcw fun k hk e => e.elim (hS k hk).1 (hS k hk).2) hft (fun x hx => by have := hfb.2 x hx; unfold Fits at hft; omega) (by have := hfb.1; omega)
  have H1 := Lib.hid hput
  have H2 := Lib.hid hcw
  have H3 := Lib.hid hv4
  clear hput hcw hv4 hfl hfb hm3 ho3 hc3 hv3 hownlt
  go_wp2_with fail
  with_reducible refine H1.out.mono ?_
  rintro e w4 ⟨rfl, v5, hm5, ho5, hc5, hv5⟩
  go_wp2_with fail
  refine bodyPost_end (results_none rfl _ _ _) rfl ⟨rfl, ?_⟩
  exact PPost.trans H2.out H3.out ⟨v5, hm5, ho5, hc5, hv5⟩


set_option maxRecDepth 100000 in
set_option maxHeartbeats 1000000 in
theorem cIns (wb lo : Nat) (v : Value) (l : List Op) (gone : Int) (n : Int) (text : ByteArray) (va : Value) (la : List Attr) (S : Nat → Prop) (w : World)
    (hmb : w.heap[wb]? = some (.cells #[v, .int .i64 gone] 127 (0, 0))) (hlo : lo ≤ wb) (hown : OwnO lo w v l) (hva : Rd KA S w va la) (hft : Fits text)
    (hsz : ∀ x ∈ l, x.text.size + text.size ≤ 140737488355328) (hlen : (l.length + 2) * 56 ≤ 140737488355328) :
    Calls Tryd.prog 117 #[.pointer (some ⟨wb, 0, none⟩), .agg #[.int .i64 2, .int .i64 n, .string text, va]] w fun e w' => e = .returned (.tuple #[]) ∧ PPost lo wb v (putL l ⟨2, n, text, la⟩, gone) w w' := by
  have hwb : wb < w.heap.size := (Array.getElem?_eq_some_iff.1 hmb).1
  obtain ⟨A2, c2, rfl, hA2, hr2⟩ := hva
  have hb0 : Below w.heap.size w (w.alloc (.cells #[.int .i64 2, .int .i64 n, .string text, .slice A2 la.length c2] 30)) := (Below.refl _ _).alloc (Nat.le_refl _) _
  have hput := cPut wb #[v, .int .i64 gone] 127 v l lo 2 n text (.slice A2 la.length c2) la S _ ((hb0.block wb hwb).trans hmb) rfl hlo (by decide) (by decide) (hown.below hb0) (Rd.below ⟨A2, c2, rfl, hA2, hr2⟩ hb0) hft hsz (by omega)
  have H1 := Lib.hid hput
  have HB := Lib.hid hb0
  clear hput hb0
  go_enter Tryd.func117, Tryd.ntmps117
  go_wp2_with fail
  with_reducible refine H1.out.mono ?_
  rintro e w4 ⟨rfl, v5, hm5, ho5, hc5, hv5⟩
  go_wp2_with fail
  refine bodyPost_end (results_none rfl _ _ _) rfl ⟨rfl, v5, hm5, ho5, (Chg.of_below HB.out _).trans hc5 fun _ _ h => h, hv5.imp id fun ⟨k, h1, h2⟩ => ⟨k, h1, by simp at h2; omega⟩⟩

set_option maxRecDepth 100000 in
set_option maxHeartbeats 1000000 in
theorem cDel (wb lo : Nat) (v : Value) (l : List Op) (gone : Int) (n : Int) (text : ByteArray) (A : Option Addr) (m c : Nat) (w : World)
    (hmb : w.heap[wb]? = some (.cells #[v, .int .i64 gone] 127 (0, 0))) (hown : OwnO lo w v l) :
    Calls Tryd.prog 117 #[.pointer (some ⟨wb, 0, none⟩), .agg #[.int .i64 3, .int .i64 n, .string text, .slice A m c]] w fun e w' => e = .returned (.tuple #[]) ∧ PPost lo wb v (l, wrap64 (gone + n)) w w' := by
  have hwb : wb < w.heap.size := (Array.getElem?_eq_some_iff.1 hmb).1
  have k1 : w.cell? ⟨wb, 1, none⟩ = some (.int .i64 gone) := by rw [cell_of_row w wb 1 _ 127 (0, 0) hmb]; rfl
  have k3 : ∀ j, w.frozen? ⟨wb, j, none⟩ = false := fun j => by simp [World.frozen?, hmb]
  have ne1 : wb ≠ w.heap.size := by omega
  go_enter Tryd.func117, Tryd.ntmps117
  go_wp2_with fail
  go_region
  go_wp2_with fail
  refine bodyPost_end (results_none rfl _ _ _) rfl ⟨rfl, v, ?_⟩
  have hs0 : Chg (fun k => k = wb) w ((w.setCell ⟨wb, 1, none⟩ (.int .i64 (wrap64 (gone + n)))).alloc (.cells #[.int .i64 3, .int .i64 n, .string text, .slice A m c] 30)).drew :=
    (((Chg.refl (fun k => k = wb) w).setCell (p := ⟨wb, 1, none⟩) _ fun _ => rfl).alloc _).drew
  refine ⟨?_, hown.offP hmb hs0, hs0.mono fun k _ e => .inl e, .inl rfl⟩
  exact (Below.heap_alloc _ _ _ (by simp [World.setCell]; omega)).trans (heap_setCell_same _ wb 1 _ _ _ hmb)
end Go.Proofs.YtaemajcpgmaapaaDoor

namespace Go.Proofs.YtaemajcpgmaapaaDoor
open Go.RowKit

/-- The writer's answer. -/
def doneC (f : Int) (s : List Op × Int) : Change × Int :=
  if 2000 < (trimL (flushL s).1).length then (⟨0, []⟩, 2) else (⟨f, trimL (flushL s).1⟩, 0)

/-- What stands behind the trim. -/
structure DonePen (lo wb : Nat) (v : Value) (w W : World) (A : Option Addr) (n c : Nat) (L : List Op) (fg : Int) : Prop where
  hm : W.heap[wb]? = some (.cells #[.slice A n c, .int .i64 fg] 127 (0, 0))
  row : RowO lo W (.slice A n c) L
  res : W.heap[w.heap.size]? = some (.cells #[.int .i64 0, .slice none 0 0] 24 (0, 0))
  chg : Chg (fun k => k = wb ∨ v.ownBlock = some k) w W
theorem RowO.offD {lo B : Nat} {w w' : World} {v : Value} {l : List Op} {cs : Array Value} (h : RowO lo w v l) (hb : w.heap[B]? = some (.cells cs 24 (0, 0))) (hc : Chg (fun k => k = B) w w') : RowO lo w' v l :=
  h.off hb (by decide) (by decide) hc
/-- The end of done. -/
def DoneP (lo wb : Nat) (v : Value) (w : World) (R : Change × Int) (e : Ending) (w' : World) : Prop :=
  ∃ v', e = .returned (.tuple #[.agg #[.int .i64 R.1.from_, v'], .int .i64 R.2]) ∧ RowO lo w' v' R.1.ops ∧ Chg (fun k => k = wb ∨ v.ownBlock = some k) w w'
theorem pen_end {lo wb : Nat} {v : Value} {w W : World} {A : Option Addr} {n c : Nat} {L : List Op} {fg : Int} (D : DonePen lo wb v w W A n c L fg) (a : Act) (R : Change × Int) (u : Value)
    (hr : RowO lo W u R.1.ops) (h5 : a.tmps[5]?.getD undef = .int .i64 R.2) (h4 : a.tmps[4]?.getD undef = .pointer (some ⟨w.heap.size, 0, none⟩)) (hd : a.defers = []) :
    bodyPost Tryd.prog Tryd.f123 (DoneP lo wb v w R) .ret a ((W.setCell ⟨w.heap.size, 0, none⟩ (.int .i64 R.1.from_)).setCell ⟨w.heap.size, 1, none⟩ u) := by
  have k5 : W.cell? ⟨w.heap.size, 0, none⟩ = some (.int .i64 0) := cell_of_row _ _ 0 _ _ _ D.res
  have k6 : W.cell? ⟨w.heap.size, 1, none⟩ = some (.slice none 0 0) := cell_of_row _ _ 1 _ _ _ D.res
  have r0 : ((W.setCell ⟨w.heap.size, 0, none⟩ (.int .i64 R.1.from_)).setCell ⟨w.heap.size, 1, none⟩ u).cell? ⟨w.heap.size, 0, none⟩ = some (.int .i64 R.1.from_) := (World.cell?_setCell_other _ _ _ _ (by simp)).trans (World.cell?_setCell_same _ _ _ k5)
  have r1 : ((W.setCell ⟨w.heap.size, 0, none⟩ (.int .i64 R.1.from_)).setCell ⟨w.heap.size, 1, none⟩ u).cell? ⟨w.heap.size, 1, none⟩ = some u := World.cell?_setCell_same _ _ _ ((World.cell?_setCell_other _ _ _ _ (by simp)).trans k6)
  have hc : Chg (fun k => k = w.heap.size) W ((W.setCell ⟨w.heap.size, 0, none⟩ (.int .i64 R.1.from_)).setCell ⟨w.heap.size, 1, none⟩ u) :=
    ((Chg.refl (fun k => k = w.heap.size) W).setCell (p := ⟨w.heap.size, 0, none⟩) _ fun _ => rfl).setCell (p := ⟨w.heap.size, 1, none⟩) _ fun _ => rfl
  refine bodyPost_ret (v := .tuple #[.agg #[.int .i64 R.1.from_, u], .int .i64 R.2]) ?_ hd ⟨u, rfl, hr.offD D.res hc, D.chg.trans hc fun k hk e => absurd hk (by omega)⟩
  simp [results, Tryd.results123, go_sem, r0, r1, h5, h4]

set_option maxRecDepth 100000 in
set_option maxHeartbeats 2000000 in
theorem cDone (wb lo : Nat) (v : Value) (l : List Op) (gone f : Int) (w : World)
    (hmb : w.heap[wb]? = some (.cells #[v, .int .i64 gone] 127 (0, 0))) (hlo : lo ≤ wb) (hown : OwnO lo w v l) (hlen : (l.length + 1) * 56 ≤ 140737488355328) :
    Calls Tryd.prog 123 #[.pointer (some ⟨wb, 0, none⟩), .int .i64 f] w (DoneP lo wb v w (doneC f (l, gone))) := by
  have hwb : wb < w.heap.size := (Array.getElem?_eq_some_iff.1 hmb).1
  have hb0 : Below w.heap.size w (w.alloc (.cells #[.int .i64 0, .slice none 0 0] 24)) := (Below.refl _ _).alloc (Nat.le_refl _) _
  have hfl := cFlush wb lo v l gone _ ((hb0.block wb hwb).trans hmb) hlo (hown.below hb0) hlen
  have hownlt := hown.lt
  have HD : Hid (doneC f (l, gone) = if 2000 < (trimL (flushL (l, gone)).1).length then (⟨0, []⟩, 2) else (⟨f, trimL (flushL (l, gone)).1⟩, 0)) := rfl
  have hfb := (flushL_bd (s := (l, gone)) (M := 140737488355328) (fun x hx => hown.fits x hx)).1
  generalize doneC f (l, gone) = R at *
  generalize flushL (l, gone) = fs at *
  obtain ⟨fl, fg⟩ := fs
  dsimp only at HD hfb
  have hres := heap_alloc_new w (.cells #[.int .i64 0, .slice none 0 0] 24)
  go_enter Tryd.func123, Tryd.ntmps123
  go_wp2_with fail
  with_reducible refine hfl.mono ?_
  rintro e w3 ⟨rfl, v3, hm3, ho3, hc3, hv3⟩
  dsimp only at hm3 ho3
  have hres3 : w3.heap[w.heap.size]? = some (.cells #[.int .i64 0, .slice none 0 0] 24 (0, 0)) :=
    (hc3.block w.heap.size (by simp) (fun e => e.elim (fun e => by omega) (fun e => by have := (hownlt _ e).2; omega))).trans hres
  have hcw : Chg (fun k => k = wb ∨ v.ownBlock = some k) w w3 := (Chg.of_below hb0 _).trans hc3 fun _ _ h => h
  clear hc3 hv3 hfl hres hb0 hownlt
  have p0 : w3.cell? ⟨wb, 0, none⟩ = some v3 := cell_of_row _ wb 0 _ _ _ hm3
  have pf := frozen_of_row w3 wb 0 _ _ hm3
  obtain ⟨A3, c3, rfl, hA3, hr3⟩ := ho3.rd
  have HD := HD.out
  rcases List.eq_nil_or_concat fl with rfl | ⟨l0, x, rfl⟩
  · have hT : trimL ([] : List Op) = [] := rfl
    rw [hT] at HD
    clear hr3 hT
    simp only [List.length_nil] at *
    have D : DonePen lo wb v w (w3) (A3) (0) c3 ([]) fg := ⟨hm3, ho3.row, hres3, hcw⟩
    have r0 : (w3).cell? ⟨w.heap.size, 0, none⟩ = some (.int .i64 0) := cell_of_row _ _ 0 _ _ _ D.res
    have r1 : (w3).cell? ⟨w.heap.size, 1, none⟩ = some (.slice none 0 0) := cell_of_row _ _ 1 _ _ _ D.res
    have rf0 := frozen_of_row (w3) w.heap.size 0 _ _ D.res
    have rf1 := frozen_of_row (w3) w.heap.size 1 _ _ D.res
    obtain ⟨hn, hcA, hcn, hcm, hrow2⟩ := D.row.clip
    clear hn
    · skip
      obtain rfl : R = (⟨f, []⟩, 0) := by rw [HD, if_neg (by simp)]
      clear HD
      have hclip := clip_any (A3) (0) c3 hcA hcn hcm
      go_wp2_with (go_at_call 95; (with_reducible refine (hclip _).mono ?_); rintro e w5 ⟨rfl, rfl⟩)
      exact pen_end D _ _ _ hrow2 rfl rfl rfl
  · rw [List.concat_eq_append] at *
    have e1 : (l0 ++ [x]).length = l0.length + 1 := by simp
    rw [e1] at ho3 hA3 hm3 p0
    obtain ⟨g0, rfl⟩ : ∃ g0, A3 = some ⟨g0, 0, none⟩ := by
      obtain ⟨ps, hps, h1, _, _⟩ := ho3
      rcases h1.2 with ⟨h', _⟩ | ⟨g', cap', cur, h', _⟩
      · simp at h'
      · simp at h'
        exact ⟨g', by rw [h'.1]⟩
    obtain ⟨vx, hox, hfx, hx0, hx1, hx2, hx3, hxf⟩ := ho3.last
    obtain ⟨A4, c4, rfl, hA4, hr4⟩ := hox.rd
    have hwr2 : IntKind.i64.wrap ((l0.length : Int) + 1 - 1) = l0.length := by rw [show ((l0.length : Int) + 1 - 1) = (l0.length : Int) by omega, IntKind.wrap_i64]; omega
    have hlt2 : (l0.length : Int) < (l0.length : Int) + 1 := by omega
    have hlt3 : (0 : Int) ≤ (l0.length : Int) := by omega
    have hq1 : decide ((0 : Int) < (l0.length : Int) + 1) = true := decide_eq_true (by omega)
    have hgl : (l0 ++ [x]).getLast? = some x := by simp
    clear hr3 e1
    by_cases hk1 : x.kind = 1
    · have hkb : (x.kind == 1) = true := by simp [hk1]
      by_cases hat : x.attrs = []
      · have hab : ((x.attrs.length : Int) == 0) = true := by simp [hat]
        have hT : trimL (l0 ++ [x]) = l0 := by unfold trimL; rw [hgl]; simp [hk1, hat]
        rw [hT] at HD
        have HK := Lib.hid hk1
        have HA := Lib.hid hat
        have hcl := ho3.row.clip.2.2.1
        have hcm0 := ho3.row.clip.2.2.2.1
        have hcl2 : (l0.length : Int) ≤ (c3 : Int) := by omega
        clear hk1 hat hT hgl
        have hcC : Chg (fun k => k = wb) w3 (w3.setCell ⟨wb, 0, none⟩ (.slice (some ⟨g0, 0, none⟩) l0.length c3)) := (Chg.refl _ _).setCell _ fun _ => rfl
        have hrow : RowO lo (w3.setCell ⟨wb, 0, none⟩ (.slice (some ⟨g0, 0, none⟩) l0.length c3)) (.slice (some ⟨g0, 0, none⟩) l0.length c3) l0 := (ho3.row.cut c3 (by omega) (Nat.le_refl _)).off hm3 (by decide) (by decide) hcC
        have hm4 : (w3.setCell ⟨wb, 0, none⟩ (.slice (some ⟨g0, 0, none⟩) l0.length c3)).heap[wb]? = some (.cells #[.slice (some ⟨g0, 0, none⟩) l0.length c3, .int .i64 fg] 127 (0, 0)) := heap_setCell_same w3 wb 0 _ _ _ hm3
        have hres4 := (hcC.block w.heap.size (Array.getElem?_eq_some_iff.1 hres3).1 (by omega)).trans hres3
        have hcw4 := hcw.trans hcC fun k _ e => .inl e
        have p00 : (w3.setCell ⟨wb, 0, none⟩ (.slice (some ⟨g0, 0, none⟩) l0.length c3)).cell? ⟨wb, 0, none⟩ = some (.slice (some ⟨g0, 0, none⟩) l0.length c3) := cell_of_row _ wb 0 _ _ _ hm4
        have D : DonePen lo wb v w (w3.setCell ⟨wb, 0, none⟩ (.slice (some ⟨g0, 0, none⟩) l0.length c3)) (some ⟨g0, 0, none⟩) (l0.length) c3 (l0) fg := ⟨hm4, hrow, hres4, hcw4⟩
        have r0 : (w3.setCell ⟨wb, 0, none⟩ (.slice (some ⟨g0, 0, none⟩) l0.length c3)).cell? ⟨w.heap.size, 0, none⟩ = some (.int .i64 0) := cell_of_row _ _ 0 _ _ _ D.res
        have r1 : (w3.setCell ⟨wb, 0, none⟩ (.slice (some ⟨g0, 0, none⟩) l0.length c3)).cell? ⟨w.heap.size, 1, none⟩ = some (.slice none 0 0) := cell_of_row _ _ 1 _ _ _ D.res
        have rf0 := frozen_of_row (w3.setCell ⟨wb, 0, none⟩ (.slice (some ⟨g0, 0, none⟩) l0.length c3)) w.heap.size 0 _ _ D.res
        have rf1 := frozen_of_row (w3.setCell ⟨wb, 0, none⟩ (.slice (some ⟨g0, 0, none⟩) l0.length c3)) w.heap.size 1 _ _ D.res
        obtain ⟨hn, hcA, hcn, hcm, hrow2⟩ := D.row.clip
        clear hn
        · skip
          by_cases h2 : 2000 < l0.length
          · have hd2 : decide ((2000 : Int) < (l0.length : Int)) = true := by simp; omega
            obtain rfl : R = (⟨0, []⟩, 2) := by rw [HD, if_pos (by simpa using h2)]
            clear HD h2
            go_wp2_with fail
            exact pen_end D _ _ _ (RowO.nil _ _) rfl rfl rfl
          · have hd2 : decide ((2000 : Int) < (l0.length : Int)) = false := by simp; omega
            obtain rfl : R = (⟨f, l0⟩, 0) := by rw [HD, if_neg (by simpa using h2)]
            clear HD h2
            have hclip := clip_any (some ⟨g0, 0, none⟩) (l0.length) c3 hcA hcn hcm
            go_wp2_with (go_at_call 95; (with_reducible refine (hclip _).mono ?_); rintro e w5 ⟨rfl, rfl⟩)
            exact pen_end D _ _ _ hrow2 rfl rfl rfl
      · have hab : ((x.attrs.length : Int) == 0) = false := by simp; exact hat
        have hT : trimL (l0 ++ [x]) = l0 ++ [x] := by unfold trimL; rw [hgl]; simp [hat]
        rw [hT] at HD
        have HK := Lib.hid hk1
        have HA := Lib.hid hat
        clear hk1 hat hT hgl
        have D : DonePen lo wb v w (w3) (some ⟨g0, 0, none⟩) (l0.length + 1) c3 (l0 ++ [x]) fg := ⟨hm3, ho3.row, hres3, hcw⟩
        have r0 : (w3).cell? ⟨w.heap.size, 0, none⟩ = some (.int .i64 0) := cell_of_row _ _ 0 _ _ _ D.res
        have r1 : (w3).cell? ⟨w.heap.size, 1, none⟩ = some (.slice none 0 0) := cell_of_row _ _ 1 _ _ _ D.res
        have rf0 := frozen_of_row (w3) w.heap.size 0 _ _ D.res
        have rf1 := frozen_of_row (w3) w.heap.size 1 _ _ D.res
        obtain ⟨hn, hcA, hcn, hcm, hrow2⟩ := D.row.clip
        clear hn
        · skip
          by_cases h2 : 2000 < l0.length + 1
          · have hd2 : decide ((2000 : Int) < (l0.length : Int) + 1) = true := by simp; omega
            obtain rfl : R = (⟨0, []⟩, 2) := by rw [HD, if_pos (by simpa using h2)]
            clear HD h2
            go_wp2_with fail
            exact pen_end D _ _ _ (RowO.nil _ _) rfl rfl rfl
          · have hd2 : decide ((2000 : Int) < (l0.length : Int) + 1) = false := by simp; omega
            obtain rfl : R = (⟨f, l0 ++ [x]⟩, 0) := by rw [HD, if_neg (by simpa using h2)]
            clear HD h2
            have hclip := clip_any (some ⟨g0, 0, none⟩) (l0.length + 1) c3 hcA hcn hcm
            go_wp2_with (go_at_call 95; (with_reducible refine (hclip _).mono ?_); rintro e w5 ⟨rfl, rfl⟩)
            exact pen_end D _ _ _ hrow2 rfl rfl rfl
    · have hkb : (x.kind == 1) = false := by simp [hk1]
      have hT : trimL (l0 ++ [x]) = l0 ++ [x] := by unfold trimL; rw [hgl]; simp [hk1]
      rw [hT] at HD
      have HK := Lib.hid hk1
      clear hk1 hT hgl
      have D : DonePen lo wb v w (w3) (some ⟨g0, 0, none⟩) (l0.length + 1) c3 (l0 ++ [x]) fg := ⟨hm3, ho3.row, hres3, hcw⟩
      have r0 : (w3).cell? ⟨w.heap.size, 0, none⟩ = some (.int .i64 0) := cell_of_row _ _ 0 _ _ _ D.res
      have r1 : (w3).cell? ⟨w.heap.size, 1, none⟩ = some (.slice none 0 0) := cell_of_row _ _ 1 _ _ _ D.res
      have rf0 := frozen_of_row (w3) w.heap.size 0 _ _ D.res
      have rf1 := frozen_of_row (w3) w.heap.size 1 _ _ D.res
      obtain ⟨hn, hcA, hcn, hcm, hrow2⟩ := D.row.clip
      clear hn
      · skip
        by_cases h2 : 2000 < l0.length + 1
        · have hd2 : decide ((2000 : Int) < (l0.length : Int) + 1) = true := by simp; omega
          obtain rfl : R = (⟨0, []⟩, 2) := by rw [HD, if_pos (by simpa using h2)]
          clear HD h2
          go_wp2_with fail
          exact pen_end D _ _ _ (RowO.nil _ _) rfl rfl rfl
        · have hd2 : decide ((2000 : Int) < (l0.length : Int) + 1) = false := by simp; omega
          obtain rfl : R = (⟨f, l0 ++ [x]⟩, 0) := by rw [HD, if_neg (by simpa using h2)]
          clear HD h2
          have hclip := clip_any (some ⟨g0, 0, none⟩) (l0.length + 1) c3 hcA hcn hcm
          go_wp2_with (go_at_call 95; (with_reducible refine (hclip _).mono ?_); rintro e w5 ⟨rfl, rfl⟩)
          exact pen_end D _ _ _ hrow2 rfl rfl rfl
end Go.Proofs.YtaemajcpgmaapaaDoor

namespace Go.Proofs.YtaemajcpgmaapaaDoor
open Go.RowKit

/-- The five blocks of a split: the operation, the two answers, the two copies. -/
structure SpW (w W : World) (o : Op) (u : Value) : Prop where
  below : Below w.heap.size w W
  b0 : W.heap[w.heap.size]? = some (.cells #[.int .i64 o.kind, .int .i64 o.n, .string o.text, u] 30 (0, 0))
  b1 : W.heap[w.heap.size + 1]? = some (.cells #[.int .i64 0, .int .i64 0, .string ⟨#[]⟩, .slice none 0 0] 30 (0, 0))
  b2 : W.heap[w.heap.size + 1 + 1]? = some (.cells #[.int .i64 0, .int .i64 0, .string ⟨#[]⟩, .slice none 0 0] 30 (0, 0))
  b3 : W.heap[w.heap.size + 1 + 1 + 1]? = some (.cells #[.int .i64 o.kind, .int .i64 o.n, .string o.text, u] 30 (0, 0))
  b4 : W.heap[w.heap.size + 1 + 1 + 1 + 1]? = some (.cells #[.int .i64 o.kind, .int .i64 o.n, .string o.text, u] 30 (0, 0))
theorem spW (w : World) (o : Op) (u : Value) : SpW w (((((w.alloc (.cells #[.int .i64 o.kind, .int .i64 o.n, .string o.text, u] 30)).alloc (.cells #[.int .i64 0, .int .i64 0, .string ⟨#[]⟩, .slice none 0 0] 30)).alloc (.cells #[.int .i64 0, .int .i64 0, .string ⟨#[]⟩, .slice none 0 0] 30)).alloc
    (.cells #[.int .i64 o.kind, .int .i64 o.n, .string o.text, u] 30)).alloc (.cells #[.int .i64 o.kind, .int .i64 o.n, .string o.text, u] 30)) o u := by
  have n1 := heap_alloc_new w (.cells #[.int .i64 o.kind, .int .i64 o.n, .string o.text, u] 30)
  have n2 := heap_alloc_new (w.alloc (.cells #[.int .i64 o.kind, .int .i64 o.n, .string o.text, u] 30)) (.cells #[.int .i64 0, .int .i64 0, .string ⟨#[]⟩, .slice none 0 0] 30)
  have n3 := heap_alloc_new ((w.alloc (.cells #[.int .i64 o.kind, .int .i64 o.n, .string o.text, u] 30)).alloc (.cells #[.int .i64 0, .int .i64 0, .string ⟨#[]⟩, .slice none 0 0] 30)) (.cells #[.int .i64 0, .int .i64 0, .string ⟨#[]⟩, .slice none 0 0] 30)
  have n4 := heap_alloc_new (((w.alloc (.cells #[.int .i64 o.kind, .int .i64 o.n, .string o.text, u] 30)).alloc (.cells #[.int .i64 0, .int .i64 0, .string ⟨#[]⟩, .slice none 0 0] 30)).alloc (.cells #[.int .i64 0, .int .i64 0, .string ⟨#[]⟩, .slice none 0 0] 30)) (.cells #[.int .i64 o.kind, .int .i64 o.n, .string o.text, u] 30)
  have n5 := heap_alloc_new ((((w.alloc (.cells #[.int .i64 o.kind, .int .i64 o.n, .string o.text, u] 30)).alloc (.cells #[.int .i64 0, .int .i64 0, .string ⟨#[]⟩, .slice none 0 0] 30)).alloc (.cells #[.int .i64 0, .int .i64 0, .string ⟨#[]⟩, .slice none 0 0] 30)).alloc (.cells #[.int .i64 o.kind, .int .i64 o.n, .string o.text, u] 30)) (.cells #[.int .i64 o.kind, .int .i64 o.n, .string o.text, u] 30)
  simp only [World.size_alloc] at n2 n3 n4 n5
  refine ⟨?_, ?_, ?_, ?_, ?_, ?_⟩
  · exact (((((Below.refl _ _).alloc (Nat.le_refl _) _).alloc (by simp) _).alloc (by simp <;> omega) _).alloc (by simp <;> omega) _).alloc (by simp <;> omega) _
  · exact (Below.heap_alloc _ _ _ (by simp <;> omega)).trans ((Below.heap_alloc _ _ _ (by simp <;> omega)).trans ((Below.heap_alloc _ _ _ (by simp <;> omega)).trans ((Below.heap_alloc _ _ _ (by simp)).trans n1)))
  · exact (Below.heap_alloc _ _ _ (by simp <;> omega)).trans ((Below.heap_alloc _ _ _ (by simp <;> omega)).trans ((Below.heap_alloc _ _ _ (by simp)).trans n2))
  · exact (Below.heap_alloc _ _ _ (by simp <;> omega)).trans ((Below.heap_alloc _ _ _ (by simp)).trans n3)
  · exact (Below.heap_alloc _ _ _ (by simp)).trans n4
  · exact n5

set_option maxRecDepth 100000 in
set_option maxHeartbeats 4000000 in
theorem split_num (o : Op) (A : Option Addr) (m c : Nat) (n : Int) (w : World) (hk : o.kind ≠ 2) :
    Calls Tryd.prog 159 #[opV o (.slice A m c), .int .i64 n] w fun e w' => e = .returned (.tuple #[opV (splitC o n).1 (.slice A m c), opV (splitC o n).2 (.slice A m c)]) ∧ Below w.heap.size w w' := by
  have HS : Hid (splitC o n = (⟨o.kind, n, o.text, o.attrs⟩, ⟨o.kind, wrap64 (o.n - n), o.text, o.attrs⟩)) := by unfold Hid splitC; rw [if_neg hk]
  have hkb : (o.kind != 2) = true := by simp [hk]
  have HW := Lib.hid (spW w o (.slice A m c))
  rw [HS.out]
  clear hk
  unfold opV
  go_enter Tryd.func159, Tryd.ntmps159
  go_wp2_with fail
  go_region
  all_goals
    generalize hWW : (((((w.alloc (.cells #[.int .i64 o.kind, .int .i64 o.n, .string o.text, .slice A m c] 30)).alloc (.cells #[.int .i64 0, .int .i64 0, .string ⟨#[]⟩, .slice none 0 0] 30)).alloc (.cells #[.int .i64 0, .int .i64 0, .string ⟨#[]⟩, .slice none 0 0] 30)).alloc
      (.cells #[.int .i64 o.kind, .int .i64 o.n, .string o.text, .slice A m c] 30)).alloc (.cells #[.int .i64 o.kind, .int .i64 o.n, .string o.text, .slice A m c] 30)) = W
    rw [hWW] at HW
    have H := HW.out
    have a0 : W.cell? ⟨w.heap.size, 0, none⟩ = some (.int .i64 o.kind) := cell_of_row _ _ 0 _ _ _ H.b0
    have a1 : W.cell? ⟨w.heap.size, 1, none⟩ = some (.int .i64 o.n) := cell_of_row _ _ 1 _ _ _ H.b0
    have e0 : W.cell? ⟨w.heap.size + 1 + 1 + 1, 0, none⟩ = some (.int .i64 o.kind) := cell_of_row _ _ 0 _ _ _ H.b3
    have e1 : W.cell? ⟨w.heap.size + 1 + 1 + 1, 1, none⟩ = some (.int .i64 o.n) := cell_of_row _ _ 1 _ _ _ H.b3
    have e2 : W.cell? ⟨w.heap.size + 1 + 1 + 1, 2, none⟩ = some (.string o.text) := cell_of_row _ _ 2 _ _ _ H.b3
    have e3 : W.cell? ⟨w.heap.size + 1 + 1 + 1, 3, none⟩ = some (.slice A m c) := cell_of_row _ _ 3 _ _ _ H.b3
    have f0 : W.cell? ⟨w.heap.size + 1 + 1 + 1 + 1, 0, none⟩ = some (.int .i64 o.kind) := cell_of_row _ _ 0 _ _ _ H.b4
    have f1 : W.cell? ⟨w.heap.size + 1 + 1 + 1 + 1, 1, none⟩ = some (.int .i64 o.n) := cell_of_row _ _ 1 _ _ _ H.b4
    have f2 : W.cell? ⟨w.heap.size + 1 + 1 + 1 + 1, 2, none⟩ = some (.string o.text) := cell_of_row _ _ 2 _ _ _ H.b4
    have f3 : W.cell? ⟨w.heap.size + 1 + 1 + 1 + 1, 3, none⟩ = some (.slice A m c) := cell_of_row _ _ 3 _ _ _ H.b4
    have z3 : W.frozen? ⟨w.heap.size + 1 + 1 + 1, 1, none⟩ = false := frozen_of_row _ _ 1 _ _ H.b3
    have z4 : W.frozen? ⟨w.heap.size + 1 + 1 + 1 + 1, 1, none⟩ = false := frozen_of_row _ _ 1 _ _ H.b4
    have c10 : W.cell? ⟨w.heap.size + 1, 0, none⟩ = some (.int .i64 0) := cell_of_row _ _ 0 _ _ _ H.b1
    have c11 : W.cell? ⟨w.heap.size + 1, 1, none⟩ = some (.int .i64 0) := cell_of_row _ _ 1 _ _ _ H.b1
    have c12 : W.cell? ⟨w.heap.size + 1, 2, none⟩ = some (.string ⟨#[]⟩) := cell_of_row _ _ 2 _ _ _ H.b1
    have c13 : W.cell? ⟨w.heap.size + 1, 3, none⟩ = some (.slice none 0 0) := cell_of_row _ _ 3 _ _ _ H.b1
    have c20 : W.cell? ⟨w.heap.size + 1 + 1, 0, none⟩ = some (.int .i64 0) := cell_of_row _ _ 0 _ _ _ H.b2
    have c21 : W.cell? ⟨w.heap.size + 1 + 1, 1, none⟩ = some (.int .i64 0) := cell_of_row _ _ 1 _ _ _ H.b2
    have c22 : W.cell? ⟨w.heap.size + 1 + 1, 2, none⟩ = some (.string ⟨#[]⟩) := cell_of_row _ _ 2 _ _ _ H.b2
    have c23 : W.cell? ⟨w.heap.size + 1 + 1, 3, none⟩ = some (.slice none 0 0) := cell_of_row _ _ 3 _ _ _ H.b2
    have y10 : ∀ j, W.frozen? ⟨w.heap.size + 1, j, none⟩ = false := fun j => frozen_of_row _ _ j _ _ H.b1
    have y20 : ∀ j, W.frozen? ⟨w.heap.size + 1 + 1, j, none⟩ = false := fun j => frozen_of_row _ _ j _ _ H.b2
    have hbW := Lib.hid H.below
    clear H hWW HW
    go_wp2_with fail
    go_region
    go_wp2_with fail
    go_region
  all_goals
    go_wp2_with fail
    refine bodyPost_ret (v := .tuple #[.agg #[.int .i64 o.kind, .int .i64 n, .string o.text, .slice A m c], .agg #[.int .i64 o.kind, .int .i64 (wrap64 (o.n - n)), .string o.text, .slice A m c]]) (by simp [results, Tryd.results159, go_sem, c10, c11, c12, c13, c20, c21, c22, c23]) rfl ⟨rfl, ?_⟩
    repeat (first | with_reducible exact hbW.out | with_reducible refine Below.drew ?_ | with_reducible refine Below.setCell ?_ (by dsimp only; omega) _)

theorem SpW.next {w W W' : World} {o : Op} {u : Value} (h : SpW w W o u) (hb : Below W.heap.size W W') : SpW w W' o u :=
  ⟨h.below.trans (hb.mono h.below.size), (hb.block _ (Array.getElem?_eq_some_iff.1 h.b0).1).trans h.b0, (hb.block _ (Array.getElem?_eq_some_iff.1 h.b1).1).trans h.b1, (hb.block _ (Array.getElem?_eq_some_iff.1 h.b2).1).trans h.b2,
    (hb.block _ (Array.getElem?_eq_some_iff.1 h.b3).1).trans h.b3, (hb.block _ (Array.getElem?_eq_some_iff.1 h.b4).1).trans h.b4⟩
theorem SpW.drew {w W : World} {o : Op} {u : Value} (h : SpW w W o u) : SpW w W.drew o u := h.next (Below.refl _ _).drew

set_option maxRecDepth 100000 in
set_option maxHeartbeats 4000000 in
theorem split_ins (o : Op) (A : Option Addr) (m c : Nat) (n : Int) (w : World) (hk : o.kind = 2) (hn : n ≤ 4611686018427387904) (hf : Fits o.text) (hT : Tabs w) :
    Calls Tryd.prog 159 #[opV o (.slice A m c), .int .i64 n] w fun e w' => e = .returned (.tuple #[opV (splitC o n).1 (.slice A m c), opV (splitC o n).2 (.slice A m c)]) ∧ Below w.heap.size w w' := by
  have HS : Hid (splitC o n = (⟨o.kind, o.n, takeT o.text n.toNat, o.attrs⟩, ⟨o.kind, o.n, dropT o.text n.toNat, o.attrs⟩)) := by unfold Hid splitC; rw [if_pos hk]
  have hkb : (o.kind != 2) = false := by simp [hk]
  have HW := Lib.hid (spW w o (.slice A m c))
  have hfs : o.text.size ≤ 140737488355328 := hf
  have cD := fun s W hT => Tryd.utf8_DecodeRuneInString s W hT
  rw [HS.out]
  clear hk hf
  unfold opV
  go_enter Tryd.func159, Tryd.ntmps159
  go_wp2_with fail
  go_region
  all_goals
    generalize hWW : (((((w.alloc (.cells #[.int .i64 o.kind, .int .i64 o.n, .string o.text, .slice A m c] 30)).alloc (.cells #[.int .i64 0, .int .i64 0, .string ⟨#[]⟩, .slice none 0 0] 30)).alloc (.cells #[.int .i64 0, .int .i64 0, .string ⟨#[]⟩, .slice none 0 0] 30)).alloc
      (.cells #[.int .i64 o.kind, .int .i64 o.n, .string o.text, .slice A m c] 30)).alloc (.cells #[.int .i64 o.kind, .int .i64 o.n, .string o.text, .slice A m c] 30)) = W
    rw [hWW] at HW
    have H := HW.out
    have a0 : W.cell? ⟨w.heap.size, 0, none⟩ = some (.int .i64 o.kind) := cell_of_row _ _ 0 _ _ _ H.b0
    have HH := Lib.hid H.drew
    clear H hWW HW
    go_wp2_with fail
    go_loopg [8, 26] (n.toNat + 1) (fun g s8 s26 wr => ∃ k : Nat, k ≤ n.toNat ∧ n.toNat - k < g ∧ s8 = .int .i64 (atT o.text k) ∧ s26 = .int .i64 k ∧ Hid (SpW w wr o (.slice A m c)))
    case atStart => exact ⟨0, Nat.zero_le _, by omega, by rw [atT_zero]; rfl, rfl, HH⟩
    case round =>
      obtain ⟨k, hk, hg, rfl, rfl, HX⟩ := hrel
      have hx := HX.out
      by_cases hlt : (k : Int) < n
      · have a2 : wr.cell? ⟨w.heap.size, 2, none⟩ = some (.string o.text) := cell_of_row _ _ 2 _ _ _ hx.b0
        have hle := atT_le o.text k
        have hle2 := atT_le o.text (k + 1)
        have hsc := atT_succ o.text k
        have cD1 := cD (o.text.extract (atT o.text k) o.text.size) wr (hT.below hx.below)
        have HSC := Lib.hid hsc
        generalize atT o.text k = at0 at *
        generalize (Lib.decodeGo (o.text.extract at0 o.text.size)) = dg at *
        obtain ⟨d1, d2⟩ := dg
        dsimp only at hsc cD1
        clear hx
        go_wp2_with (go_at_call 167; (with_reducible refine cD1.mono ?_); rintro e w2 ⟨rfl, hb2⟩)
        go_roundg (n.toNat - k)
        case measure => omega
        case rel => exact ⟨k + 1, by omega, by omega, by rw [← HSC.out]; simp, by go_num, HX.out.next hb2⟩
      · have hkn : k = n.toNat := by omega
        have e1 := takeT_eq o.text k
        have e2 := dropT_eq o.text k
        have hle := atT_le o.text k
        rw [hkn] at e1 e2
        subst hkn
        obtain ⟨tk, T1⟩ : ∃ tk, Hid (takeT o.text n.toNat = tk) := ⟨_, rfl⟩
        obtain ⟨dt, T2⟩ : ∃ dt, Hid (dropT o.text n.toNat = dt) := ⟨_, rfl⟩
        rw [T1.out] at e1
        rw [T2.out] at e2
        have E1 := Lib.hid e1
        have E2 := Lib.hid e2
        generalize atT o.text n.toNat = at0 at *
        clear e1 e2
        have a2 : wr.cell? ⟨w.heap.size, 2, none⟩ = some (.string o.text) := cell_of_row _ _ 2 _ _ _ hx.b0
        have e0 : wr.cell? ⟨w.heap.size + 1 + 1 + 1, 0, none⟩ = some (.int .i64 o.kind) := cell_of_row _ _ 0 _ _ _ hx.b3
        have e1 : wr.cell? ⟨w.heap.size + 1 + 1 + 1, 1, none⟩ = some (.int .i64 o.n) := cell_of_row _ _ 1 _ _ _ hx.b3
        have e2 : wr.cell? ⟨w.heap.size + 1 + 1 + 1, 2, none⟩ = some (.string o.text) := cell_of_row _ _ 2 _ _ _ hx.b3
        have e3 : wr.cell? ⟨w.heap.size + 1 + 1 + 1, 3, none⟩ = some (.slice A m c) := cell_of_row _ _ 3 _ _ _ hx.b3
        have f0 : wr.cell? ⟨w.heap.size + 1 + 1 + 1 + 1, 0, none⟩ = some (.int .i64 o.kind) := cell_of_row _ _ 0 _ _ _ hx.b4
        have f1 : wr.cell? ⟨w.heap.size + 1 + 1 + 1 + 1, 1, none⟩ = some (.int .i64 o.n) := cell_of_row _ _ 1 _ _ _ hx.b4
        have f2 : wr.cell? ⟨w.heap.size + 1 + 1 + 1 + 1, 2, none⟩ = some (.string o.text) := cell_of_row _ _ 2 _ _ _ hx.b4
        have f3 : wr.cell? ⟨w.heap.size + 1 + 1 + 1 + 1, 3, none⟩ = some (.slice A m c) := cell_of_row _ _ 3 _ _ _ hx.b4
        have z3 : wr.frozen? ⟨w.heap.size + 1 + 1 + 1, 2, none⟩ = false := frozen_of_row _ _ 2 _ _ hx.b3
        have z4 : wr.frozen? ⟨w.heap.size + 1 + 1 + 1 + 1, 2, none⟩ = false := frozen_of_row _ _ 2 _ _ hx.b4
        have c10 : wr.cell? ⟨w.heap.size + 1, 0, none⟩ = some (.int .i64 0) := cell_of_row _ _ 0 _ _ _ hx.b1
        have c11 : wr.cell? ⟨w.heap.size + 1, 1, none⟩ = some (.int .i64 0) := cell_of_row _ _ 1 _ _ _ hx.b1
        have c12 : wr.cell? ⟨w.heap.size + 1, 2, none⟩ = some (.string ⟨#[]⟩) := cell_of_row _ _ 2 _ _ _ hx.b1
        have c13 : wr.cell? ⟨w.heap.size + 1, 3, none⟩ = some (.slice none 0 0) := cell_of_row _ _ 3 _ _ _ hx.b1
        have c20 : wr.cell? ⟨w.heap.size + 1 + 1, 0, none⟩ = some (.int .i64 0) := cell_of_row _ _ 0 _ _ _ hx.b2
        have c21 : wr.cell? ⟨w.heap.size + 1 + 1, 1, none⟩ = some (.int .i64 0) := cell_of_row _ _ 1 _ _ _ hx.b2
        have c22 : wr.cell? ⟨w.heap.size + 1 + 1, 2, none⟩ = some (.string ⟨#[]⟩) := cell_of_row _ _ 2 _ _ _ hx.b2
        have c23 : wr.cell? ⟨w.heap.size + 1 + 1, 3, none⟩ = some (.slice none 0 0) := cell_of_row _ _ 3 _ _ _ hx.b2
        have y10 : ∀ j, wr.frozen? ⟨w.heap.size + 1, j, none⟩ = false := fun j => frozen_of_row _ _ j _ _ hx.b1
        have y20 : ∀ j, wr.frozen? ⟨w.heap.size + 1 + 1, j, none⟩ = false := fun j => frozen_of_row _ _ j _ _ hx.b2
        have hbW := Lib.hid hx.below
        clear hx HX
        have s1 : ∀ W, (Instr.slice 9 (.string o.text) none (some (.int .i64 at0)) none).run Tryd.prog W = .ok (.string tk) W := fun W => by
          rw [← E1.out]
          simp [go_sem]
          exact fun h => absurd h (by omega)
        have s2 : ∀ W, (Instr.slice 9 (.string o.text) (some (.int .i64 at0)) none none).run Tryd.prog W = .ok (.string dt) W := fun W => by
          rw [← E2.out]
          simp [go_sem]
          exact fun h => absurd h (by omega)
        go_wp2_with fail
        go_region
        go_wp2_with fail
        go_region
        go_wp2_with fail
        refine bodyPost_ret (v := .tuple #[.agg #[.int .i64 o.kind, .int .i64 o.n, .string tk, .slice A m c], .agg #[.int .i64 o.kind, .int .i64 o.n, .string dt, .slice A m c]]) (by simp [results, Tryd.results159, go_sem, c10, c11, c12, c13, c20, c21, c22, c23]) rfl ⟨by rw [T1.out, T2.out], ?_⟩
        repeat (first | with_reducible exact hbW.out | with_reducible refine Below.drew ?_ | with_reducible refine Below.setCell ?_ (by dsimp only; omega) _)
theorem split_any (o : Op) (A : Option Addr) (m c : Nat) (n : Int) (w : World) (hn : n ≤ 4611686018427387904) (hf : Fits o.text) (hT : Tabs w) :
    Calls Tryd.prog 159 #[opV o (.slice A m c), .int .i64 n] w fun e w' => e = .returned (.tuple #[opV (splitC o n).1 (.slice A m c), opV (splitC o n).2 (.slice A m c)]) ∧ Below w.heap.size w w' := by
  by_cases hk : o.kind = 2
  · exact split_ins o A m c n w hk hn hf hT
  · exact split_num o A m c n w hk
end Go.Proofs.YtaemajcpgmaapaaDoor
