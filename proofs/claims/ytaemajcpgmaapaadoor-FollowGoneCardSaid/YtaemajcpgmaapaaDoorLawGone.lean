/- The walk: blotterlaw07.FollowGone. -/
import Derived.Test.YtaemajcpgmaapaaDoorAwake7
namespace Go.Proofs.YtaemajcpgmaapaaDoor
open Go.RowKit

/-- A loop over operations that joins their texts. -/
def txtTo (l : List Op) (k : Nat) : ByteArray := txtO (l.take k)
theorem txtTo_succ {l : List Op} {k : Nat} (h : k < l.length) : txtTo l (k + 1) = txtTo l k ++ l[k].text := by
  unfold txtTo txtO
  rw [List.take_succ_eq_append_getElem h, List.foldl_append]
  rfl
theorem txtTo_all (l : List Op) : txtTo l l.length = txtO l := by unfold txtTo; rw [List.take_length]
theorem txtO_go_size : ∀ (l : List Op) (s : ByteArray), (l.foldl (fun s o => s ++ o.text) s).size = s.size + (l.map fun o => o.text.size).sum
  | [], s => by simp
  | o :: l, s => by rw [List.foldl_cons, txtO_go_size l (s ++ o.text), ByteArray.size_append]; simp; omega
theorem txtO_size (l : List Op) : (txtO l).size = (l.map fun o => o.text.size).sum := by
  unfold txtO
  rw [txtO_go_size]
  show 0 + _ = _
  omega
theorem txtTo_le (l : List Op) (k : Nat) : (txtTo l k).size ≤ (txtO l).size := by
  unfold txtTo
  rw [txtO_size, txtO_size]
  induction l generalizing k with
  | nil => simp
  | cons o l ih =>
    cases k with
    | zero => simp
    | succ k => have := ih k; rw [List.take_succ_cons, List.map_cons, List.map_cons, List.sum_cons, List.sum_cons]; omega
theorem sum_le {l : List Op} {M : Nat} (h : ∀ o ∈ l, o.text.size ≤ M) : (l.map fun o => o.text.size).sum ≤ l.length * M := by
  induction l with
  | nil => simp
  | cons o l ih =>
    have h1 := h o (.head _)
    have h2 := ih fun x hx => h x (.tail _ hx)
    simp only [List.map_cons, List.sum_cons, List.length_cons, Nat.succ_mul]
    omega
theorem txtTo_room {l : List Op} {k : Nat} (h : k < l.length) (hb : (txtO l).size ≤ 160000000) : (txtTo l k).size + l[k].text.size ≤ 160000000 := by
  have h1 := txtTo_le l (k + 1)
  rw [txtTo_succ h, ByteArray.size_append] at h1
  exact Nat.le_trans h1 hb

set_option maxRecDepth 100000 in
set_option maxHeartbeats 4000000 in
theorem gone_any (f : Int) (vo : Value) (l : List Op) (S : Nat → Prop) (first : Bool) (w : World) (h : Rd KO S w vo l) (hT : Tabs w) :
    Calls Tryd.prog 3 #[.agg #[.int .i64 f, vo], .bool first] w fun e w' => e = .returned (.bool true) ∧ Below w.heap.size w w' := by
  have cr := right_ch f vo l S
  obtain ⟨A, c, rfl, hA, hr⟩ := h
  have hb0 : Below w.heap.size w (w.alloc (.cells #[.int .i64 f, .slice A l.length c] 24)) := (Below.refl _ _).alloc (Nat.le_refl _) _
  have g0 := heap_alloc_new w (.cells #[.int .i64 f, .slice A l.length c] 24)
  have cw := awake7 _ (hT.below hb0)
  obtain ⟨rr, er, HR⟩ : ∃ rr er, Hid (toR ⟨f, l⟩ = (rr, er)) := ⟨_, _, rfl⟩
  rw [HR.out] at cr
  go_enter Tryd.func3, Tryd.ntmps3
  go_wp2_with fail
  with_reducible refine cw.mono ?_
  rintro e w1 ⟨rfl, hb1⟩
  have hbw1 : Below w.heap.size w w1 := hb0.trans (hb1.mono hb0.size)
  have k1 := (hb1.block _ (by simp)).trans g0
  have hs1 : w.heap.size < w1.heap.size := (Array.getElem?_eq_some_iff.1 k1).1
  have q0 : w1.cell? ⟨w.heap.size, 0, none⟩ = some (.int .i64 f) := cell_of_row _ _ 0 _ _ _ k1
  have q1 : w1.cell? ⟨w.heap.size, 1, none⟩ = some (.slice A l.length c) := cell_of_row _ _ 1 _ _ _ k1
  have cr1 := cr _ (Rd.below ⟨A, c, rfl, hA, hr⟩ hbw1) (hT.below hbw1)
  have HK1 := Lib.hid k1
  clear k1 g0 cr cw hb1
  go_wp2_with fail
  with_reducible refine cr1.mono ?_
  rintro e w2 ⟨rfl, hb2⟩
  dsimp only
  have hbw2 : Below w.heap.size w w2 := hbw1.trans (hb2.mono hbw1.size)
  have k2 := (hb2.block _ hs1).trans HK1.out
  have hs2 : w.heap.size < w2.heap.size := (Array.getElem?_eq_some_iff.1 k2).1
  have p0 : w2.cell? ⟨w.heap.size, 0, none⟩ = some (.int .i64 f) := cell_of_row _ _ 0 _ _ _ k2
  have p1 : w2.cell? ⟨w.heap.size, 1, none⟩ = some (.slice A l.length c) := cell_of_row _ _ 1 _ _ _ k2
  have HK2 := Lib.hid k2
  clear cr1 q0 q1 HK1 k2 hb2
  by_cases he : er = 0
  · subst he
    have R : Rt ⟨f, l⟩ := toR_rt (by rw [HR.out])
    by_cases hf : f = 0
    · subst hf
      go_wp2_with fail
      go_ret
      exact ⟨rfl, hbw2⟩
    · have hfb : (f == 0) = false := by simp [hf]
      have G := fol_gone (first := first) R hf
      have hlo := R.lo
      have hhi := R.hi
      have HF := Lib.hid hf
      clear hf
      dsimp only at G hlo hhi
      have hsz : (txtO l).size ≤ 160000000 := by
        rw [txtO_size]
        refine Nat.le_trans (sum_le (M := 80000) fun o ho => (R.ok o ho).size) ?_
        have : l.length ≤ 2000 := R.len
        exact Nat.mul_le_mul_right 80000 this
      have hsz2 : (txtO (folR first (allGone f) ⟨f, l⟩).1.ops).size ≤ 160000000 := by rw [G.2.2.2]; exact hsz
      have gO := heap_alloc_new w2 (.cells #[.int .i64 3, .int .i64 f, .string ⟨#[]⟩, .slice none 0 0] 30)
      have hbA : Below w2.heap.size w2 ((w2.alloc (.cells #[.int .i64 3, .int .i64 f, .string ⟨#[]⟩, .slice none 0 0] 30)).alloc (.cells #[.int .i64 f, .slice (some ⟨w2.heap.size, 0, none⟩) 1 1] 24)) := ((Below.refl _ _).alloc (Nat.le_refl _) _).alloc (by simp) _
      have hbwA : Below w.heap.size w _ := hbw2.trans (hbA.mono hbw2.size)
      have cF := follow_any f f (.slice (some ⟨w2.heap.size, 0, none⟩) 1 1) (.slice A l.length c) [⟨3, f, ⟨#[]⟩, []⟩] l _ S first _ (rd_one ((Below.heap_alloc _ _ _ (by simp)).trans gO) (show (0 : Nat) ≤ _ by omega)) (Rd.below ⟨A, c, rfl, hA, hr⟩ hbwA) (hT.below hbwA)
      have m0 : ∀ o o', ((w2.alloc o).alloc o').cell? ⟨w.heap.size, 0, none⟩ = some (.int .i64 f) := fun o o' => (World.cell?_of_block (Below.heap_alloc _ o' _ (by show w.heap.size < _; simp; omega))).trans ((World.cell?_of_block (Below.heap_alloc w2 o _ hs2)).trans p0)
      have m1 : ∀ o o', ((w2.alloc o).alloc o').cell? ⟨w.heap.size, 1, none⟩ = some (.slice A l.length c) := fun o o' => (World.cell?_of_block (Below.heap_alloc _ o' _ (by show w.heap.size < _; simp; omega))).trans ((World.cell?_of_block (Below.heap_alloc w2 o _ hs2)).trans p1)
      have ne0 : w.heap.size ≠ w2.heap.size := by omega
      change Calls _ _ _ _ (ChQ _ (folR first (allGone f) ⟨f, l⟩)) at cF
      generalize folR first (allGone f) ⟨f, l⟩ = X at *
      obtain ⟨⟨xf, xo⟩, xe⟩ := X
      dsimp only at G hsz2
      obtain ⟨rfl, rfl, hins, htx⟩ := G
      have HA := Lib.hid hbA
      have HBA := Lib.hid hbwA
      clear hbA hbwA gO
      go_wp2_with fail
      with_reducible refine cF.mono ?_
      rintro e w3 ⟨v3, rfl, hb3, hr3⟩
      obtain ⟨A3, c3, rfl, hA3, hs3⟩ := hr3.rd
      dsimp only
      have hlen3 := hs3.len
      have kx : w2.heap.size < w3.heap.size := by have := hb3.size; simp at this; omega
      have kz : w.heap.size < w3.heap.size := Nat.lt_trans hs2 kx
      have hb23 : Below w2.heap.size w2 w3 := HA.out.trans (hb3.mono HA.out.size)
      have gx := heap_alloc_new w3 (.cells #[.int .i64 0, .slice A3 xo.length c3] 24)
      have x0 : (w3.alloc (.cells #[.int .i64 0, .slice A3 xo.length c3] 24)).cell? ⟨w3.heap.size, 0, none⟩ = some (.int .i64 0) := cell_of_row _ _ 0 _ _ _ gx
      have x1 : (w3.alloc (.cells #[.int .i64 0, .slice A3 xo.length c3] 24)).cell? ⟨w3.heap.size, 1, none⟩ = some (.slice A3 xo.length c3) := cell_of_row _ _ 1 _ _ _ gx
      have b1 : ∀ o, (w3.alloc o).cell? ⟨w.heap.size, 1, none⟩ = some (.slice A l.length c) := fun o => (World.cell?_of_block (Below.heap_alloc w3 o _ kz)).trans ((hb23.cell (p := ⟨w.heap.size, 1, none⟩) hs2).trans p1)
      have hb3w : ∀ o, Below w3.heap.size w3 (w3.alloc o) := fun o => (Below.refl _ _).alloc (Nat.le_refl _) o
      have hbw3 : Below w.heap.size w w3 := hbw2.trans (hb23.mono hbw2.size)
      have HTX : Hid (txtTo xo xo.length = txtO l) := by rw [txtTo_all]; exact htx
      have HINS := Lib.hid hins
      clear gx hb3 hins htx m0 m1 p0 p1 cF
      go_wp2_with fail
      go_loopg [10, 12] (xo.length + 1) (fun g s10 s12 wr => ∃ (k : Nat) (z : ByteArray), k ≤ xo.length ∧ xo.length - k < g ∧ s10 = .string z ∧ s12 = .int .i64 k ∧ z = txtTo xo k ∧ Below w3.heap.size w3 wr ∧ wr.cell? ⟨w3.heap.size, 1, none⟩ = some (.slice A3 xo.length c3) ∧ wr.cell? ⟨w.heap.size, 1, none⟩ = some (.slice A l.length c))
      case atStart => exact ⟨0, _, Nat.zero_le _, by omega, rfl, rfl, rfl, hb3w _, x1, b1 _⟩
      case round =>
        obtain ⟨k, z, hk, hg, rfl, rfl, hz, hb, y1, y2⟩ := hrel
        by_cases hlt : k < xo.length
        · have hlz : (k : Int) < (xo.length : Int) := by omega
          obtain ⟨b4, o4, A4, c4, rfl, _, hbw4, hc0, hc1, hc2, hc3, hva, hft⟩ := hs3.ops k hlt
          have d0 := (hb.cell (p := ⟨b4, o4 + k * 4, none⟩) hbw4).trans hc0
          have d2 := (hb.cell (p := ⟨b4, o4 + k * 4 + 2, none⟩) hbw4).trans hc2
          rw [HINS.out _ (List.getElem_mem hlt)] at d0
          have hsz1 := txtTo_room hlt hsz2
          have hz2 : z ++ xo[k].text = txtTo xo (k + 1) := by rw [txtTo_succ hlt, hz]
          rw [← hz] at hsz1
          have HZ := Lib.hid hz2
          clear hc0 hc1 hc2 hc3 hva hz hz2
          generalize xo[k].text = t at *
          go_wp2_with fail
          go_roundg (xo.length + 1 - (k + 1))
          case measure => omega
          case rel => exact ⟨k + 1, _, by omega, by omega, rfl, by go_num, HZ.out, hb, y1, y2⟩
        · have hkk : k = xo.length := by omega
          subst hkk
          have hlz : ¬ (xo.length : Int) < (xo.length : Int) := by omega
          go_wp2_with fail
          clear HINS y1
          have hrl := hr
          have hlenl := hr.len
          go_loopg [11, 13] (l.length + 1) (fun g s11 s13 wr => ∃ (k : Nat) (y : ByteArray), k ≤ l.length ∧ l.length - k < g ∧ s11 = .string y ∧ s13 = .int .i64 k ∧ y = txtTo l k ∧ Below w3.heap.size w3 wr ∧ wr.cell? ⟨w.heap.size, 1, none⟩ = some (.slice A l.length c))
          case atStart => exact ⟨0, _, Nat.zero_le _, by omega, rfl, rfl, rfl, hb, y2⟩
          case round =>
            obtain ⟨k, y, hk, hg, rfl, rfl, hy, hb, y2⟩ := hrel
            by_cases hlt : k < l.length
            · have hlz : (k : Int) < (l.length : Int) := by omega
              obtain ⟨b4, o4, A4, c4, rfl, _, hbw4, hc0, hc1, hc2, hc3, hva, hft⟩ := hrl.ops k hlt
              have hbw : Below w.heap.size w wr := hbw3.trans (hb.mono hbw3.size)
              have d2 := (hbw.cell (p := ⟨b4, o4 + k * 4 + 2, none⟩) hbw4).trans hc2
              have hsz1 := txtTo_room hlt hsz
              have hz2 : y ++ l[k].text = txtTo l (k + 1) := by rw [txtTo_succ hlt, hy]
              rw [← hy] at hsz1
              have HZ := Lib.hid hz2
              clear hc0 hc1 hc2 hc3 hva hy hz2
              generalize l[k].text = t at *
              go_wp2_with fail
              go_roundg (l.length + 1 - (k + 1))
              case measure => omega
              case rel => exact ⟨k + 1, _, by omega, by omega, rfl, by go_num, HZ.out, hb, y2⟩
            · have hkk : k = l.length := by omega
              subst hkk
              have hlz : ¬ (l.length : Int) < (l.length : Int) := by omega
              have hyz : z = y := by rw [hz, HTX.out, hy, txtTo_all]
              have hqq : ((txtTo xo xo.length).toList == y.toList) = true := by rw [← hz, hyz]; simp
              have HQ := Lib.hid hqq
              clear hz hy hqq hyz
              go_wp2_with fail
              go_ret
              exact ⟨congrArg (fun b => Ending.returned (.bool b)) HQ.out, hbw3.trans (hb.mono hbw3.size)⟩
  · have heb : (er != 0) = true := by simp [he]
    have HE := Lib.hid he
    clear he
    go_wp2_with fail
    go_ret
    exact ⟨rfl, hbw2⟩
end Go.Proofs.YtaemajcpgmaapaaDoor
