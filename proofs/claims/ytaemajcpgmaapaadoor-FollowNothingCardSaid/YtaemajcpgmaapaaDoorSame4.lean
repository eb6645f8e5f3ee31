/- slices.EqualFunc as change.Same uses it; change.Same; change.Is. -/
import Derived.Test.YtaemajcpgmaapaaDoorSame3
namespace Go.Proofs.YtaemajcpgmaapaaDoor
open Go.RowKit

def opsEq : List Op → List Op → Bool
  | [], [] => true
  | a :: l, b :: m => opEq a b && opsEq l m
  | _, _ => false
theorem opsEq_len : ∀ l m, opsEq l m = true → l.length = m.length
  | [], [], _ => rfl
  | a :: l, b :: m, h => by
    simp only [opsEq, Bool.and_eq_true] at h
    simp [opsEq_len l m h.2]
  | [], _ :: _, h => by simp [opsEq] at h
  | _ :: _, [], h => by simp [opsEq] at h
def chEq (a b : Change) : Bool := decide (a.from_ = b.from_) && opsEq a.ops b.ops

set_option maxHeartbeats 2000000 in
theorem equalF_any (v1 v2 : Value) (l1 l2 : List Op) (S1 S2 : Nat → Prop) (w : World) (h1 : Rd KO S1 w v1 l1) (h2 : Rd KO S2 w v2 l2) :
    Calls Tryd.prog 96 #[v1, v2, .func (.func 97) #[] #[]] w fun e w' => e = .returned (.bool (opsEq l1 l2)) ∧ Below w.heap.size w w' := by
  have cs := same1_any
  obtain ⟨A1, c1, rfl, _, hr1⟩ := h1
  obtain ⟨A2, c2, rfl, _, hr2⟩ := h2
  have hlen1 := hr1.len
  have hlen2 := hr2.len
  by_cases hL : l1.length = l2.length
  · have HL := Lib.hid hL
    clear hL
    have hne : ((l1.length : Int) != (l2.length : Int)) = false := by have := HL.out; simp [this]
    go_enter Tryd.func96, Tryd.ntmps96
    go_wp2_with fail
    go_loopg [17] (l1.length + 1) (fun g s17 wr => ∃ k : Nat, k ≤ l1.length ∧ l1.length - k < g ∧ s17 = .int .i64 k ∧ Below w.heap.size w wr ∧ Aside (opsEq l1 l2 = opsEq (l1.drop k) (l2.drop k)))
    case atStart => exact ⟨0, Nat.zero_le _, by omega, rfl, Below.refl _ _, (show Aside _ from rfl)⟩
    case round =>
      obtain ⟨k, hk, hg, rfl, hb, Ad⟩ := hrel
      by_cases hlt : k < l1.length
      · have hlt2 : k < l2.length := by have := HL.out; omega
        have hlz : (k : Int) < (l1.length : Int) := by omega
        have hlz2 : (k : Int) < (l2.length : Int) := by omega
        obtain ⟨b1, o1, A3, c3, rfl, _, hbw1, hc0, hc1, hc2, hc3, hva1, hft1⟩ := hr1.ops k hlt
        obtain ⟨b2, o2, A4, c4, rfl, _, hbw2, hp0, hp1, hp2, hp3, hva2, hft2⟩ := hr2.ops k hlt2
        have d0 := (hb.cell (p := ⟨b1, o1 + k * 4, none⟩) hbw1).trans hc0
        have d1 := (hb.cell (p := ⟨b1, o1 + k * 4 + 1, none⟩) hbw1).trans hc1
        have d2 := (hb.cell (p := ⟨b1, o1 + k * 4 + 2, none⟩) hbw1).trans hc2
        have d3 := (hb.cell (p := ⟨b1, o1 + k * 4 + 3, none⟩) hbw1).trans hc3
        have hba : ∀ o, Below w.heap.size w (wr.alloc o) := fun o => hb.alloc hb.size o
        have q0 := fun o => ((hba o).cell (p := ⟨b2, o2 + k * 4, none⟩) hbw2).trans hp0
        have q1 := fun o => ((hba o).cell (p := ⟨b2, o2 + k * 4 + 1, none⟩) hbw2).trans hp1
        have q2 := fun o => ((hba o).cell (p := ⟨b2, o2 + k * 4 + 2, none⟩) hbw2).trans hp2
        have q3 := fun o => ((hba o).cell (p := ⟨b2, o2 + k * 4 + 3, none⟩) hbw2).trans hp3
        have hstep : opsEq (l1.drop k) (l2.drop k) = (opEq l1[k] l2[k] && opsEq (l1.drop (k + 1)) (l2.drop (k + 1))) := by rw [List.drop_eq_getElem_cons hlt, List.drop_eq_getElem_cons hlt2]; rfl
        have Ad2 := Ad.trans hstep
        have hbx : ∀ o o', Below w.heap.size w ((wr.alloc o).alloc o') := fun o o' => (hba o).alloc (hba o).size o'
        have cs1 := fun o o' => cs l1[k] l2[k] _ _ S1 S2 _ (hva1.below (hbx o o')) (hva2.below (hbx o o'))
        generalize l1[k] = x at *
        generalize l2[k] = y at *
        clear hc0 hc1 hc2 hc3 hp0 hp1 hp2 hp3 hstep Ad cs hva1 hva2
        cases he : opEq x y with
        | true =>
          have HM : Aside (opsEq l1 l2 = opsEq (l1.drop (k + 1)) (l2.drop (k + 1))) := by have := Ad2; rw [he, Bool.true_and] at this; exact this
          rw [he] at cs1
          clear Ad2 he
          go_wp2_with (go_at_call 97; (with_reducible refine (cs1 _ _).mono ?_); rintro e w2 ⟨rfl, hb2⟩)
          go_roundg (l1.length + 1 - (k + 1))
          case measure => omega
          case rel => exact ⟨k + 1, by omega, by omega, by go_num, (hbx _ _).trans (hb2.mono (hbx _ _).size), HM⟩
        | false =>
          have HM : Hid (opsEq l1 l2 = false) := by have := Ad2; rw [he, Bool.false_and] at this; exact this
          rw [he] at cs1
          clear Ad2 he
          go_wp2_with (go_at_call 97; (with_reducible refine (cs1 _ _).mono ?_); rintro e w2 ⟨rfl, hb2⟩)
          go_ret
          exact ⟨by rw [HM.out]; rfl, (hbx _ _).trans (hb2.mono (hbx _ _).size)⟩
      · have hlz : ¬ (k : Int) < (l1.length : Int) := by omega
        have hkl : k = l1.length := by omega
        have HM : Hid (opsEq l1 l2 = true) := by
          have := Ad
          rw [hkl, List.drop_length, HL.out, List.drop_length] at this
          exact this
        clear Ad hkl
        go_wp2_with fail
        go_ret
        exact ⟨by rw [HM.out]; rfl, hb⟩
  · have hne : ((l1.length : Int) != (l2.length : Int)) = true := by simp; omega
    have HM : Hid (opsEq l1 l2 = false) := by
      unfold Hid
      cases h : opsEq l1 l2 with
      | false => rfl
      | true => exact absurd (opsEq_len _ _ h) hL
    have HL := Lib.hid hL
    clear hL
    go_enter Tryd.func96, Tryd.ntmps96
    go_wp2_with fail
    go_ret
    exact ⟨by rw [HM.out]; rfl, Below.refl _ _⟩

set_option maxHeartbeats 2000000 in
theorem same_ch (fa fb : Int) (va vb : Value) (la lb : List Op) (S1 S2 : Nat → Prop) (w : World) (ha : Rd KO S1 w va la) (hb : Rd KO S2 w vb lb) :
    Calls Tryd.prog 38 #[.agg #[.int .i64 fa, va], .agg #[.int .i64 fb, vb]] w fun e w' => e = .returned (.bool (chEq ⟨fa, la⟩ ⟨fb, lb⟩)) ∧ Below w.heap.size w w' := by
  have cs := equalF_any va vb la lb S1 S2
  obtain ⟨A1, c1, rfl, hA1, hr1⟩ := ha
  obtain ⟨A2, c2, rfl, hA2, hr2⟩ := hb
  have hbb : Below w.heap.size w ((w.alloc (.cells #[.int .i64 fa, .slice A1 la.length c1] 24)).alloc (.cells #[.int .i64 fb, .slice A2 lb.length c2] 24)) := ((Below.refl _ _).alloc (Nat.le_refl _) _).alloc (by simp) _
  have cs1 := cs _ (Rd.below ⟨A1, c1, rfl, hA1, hr1⟩ hbb) (Rd.below ⟨A2, c2, rfl, hA2, hr2⟩ hbb)
  by_cases hk : fa = fb
  · have hkb : (fa == fb) = true := by simp [hk]
    have HO : Hid (chEq ⟨fa, la⟩ ⟨fb, lb⟩ = opsEq la lb) := by unfold Hid chEq; simp [hk]
    have HK := Lib.hid hk
    clear hk
    go_enter Tryd.func38, Tryd.ntmps38
    go_wp2_with fail
    with_reducible refine cs1.mono ?_
    rintro e w2 ⟨rfl, hb2⟩
    go_wp2_with fail
    go_ret
    exact ⟨by rw [HO.out]; rfl, hbb.trans (hb2.mono hbb.size)⟩
  · have hkb : (fa == fb) = false := by simp [hk]
    have HO : Hid (chEq ⟨fa, la⟩ ⟨fb, lb⟩ = false) := by unfold Hid chEq; simp [hk]
    have HK := Lib.hid hk
    clear hk
    go_enter Tryd.func38, Tryd.ntmps38
    go_wp2_with fail
    go_ret
    exact ⟨by rw [HO.out]; rfl, hbb⟩

/-- change.Is. -/
def chIs (c : Change) : Bool := decide ((nmR c).2 = 0) && chEq c (nmR c).1

set_option maxHeartbeats 2000000 in
theorem is_ch (f : Int) (vo : Value) (l : List Op) (S : Nat → Prop) (w : World) (h : Rd KO S w vo l) (hT : Tabs w) :
    Calls Tryd.prog 35 #[.agg #[.int .i64 f, vo]] w fun e w' => e = .returned (.bool (chIs ⟨f, l⟩)) ∧ Below w.heap.size w w' := by
  have cn := normal_ch f vo l S
  obtain ⟨A, c, rfl, hA, hr⟩ := h
  have hb0 : Below w.heap.size w (w.alloc (.cells #[.int .i64 f, .slice A l.length c] 24)) := (Below.refl _ _).alloc (Nat.le_refl _) _
  have cn1 := cn _ (Rd.below ⟨A, c, rfl, hA, hr⟩ hb0) (hT.below hb0)
  obtain ⟨nf, nl, er, HR⟩ : ∃ nf nl er, Hid (nmR ⟨f, l⟩ = (⟨nf, nl⟩, er)) := ⟨_, _, _, rfl⟩
  rw [HR.out] at cn1
  have cn2 := Lib.hid cn1
  clear cn cn1
  go_enter Tryd.func35, Tryd.ntmps35
  go_wp2_with fail
  with_reducible refine cn2.out.mono ?_
  rintro e w1 ⟨v1, rfl, hb1, ho1⟩
  have hbw : Below w.heap.size w w1 := hb0.trans (hb1.mono hb0.size)
  have hrd := ho1.rd
  obtain ⟨A1, c1, rfl, hA1, hr1⟩ := hrd
  have hz1 : w.heap.size < w1.heap.size := by have := hb1.size; simp at this; omega
  have k1 : w1.heap[w.heap.size]? = some (.cells #[.int .i64 f, .slice A l.length c] 24 (0, 0)) := (hb1.block _ (by simp)).trans (heap_alloc_new w _)
  have hba : ∀ o, Below w.heap.size w (w1.alloc o) := fun o => hbw.alloc hbw.size o
  have j0 : ∀ o, (w1.alloc o).cell? ⟨w.heap.size, 0, none⟩ = some (.int .i64 f) := fun o => (World.cell?_of_block (Below.heap_alloc w1 o _ (by show w.heap.size < _; omega))).trans (cell_of_row w1 _ 0 _ _ _ k1)
  have j1 : ∀ o, (w1.alloc o).cell? ⟨w.heap.size, 1, none⟩ = some (.slice A l.length c) := fun o => (World.cell?_of_block (Below.heap_alloc w1 o _ (by show w.heap.size < _; omega))).trans (cell_of_row w1 _ 1 _ _ _ k1)
  by_cases he : er = 0
  · subst he
    have HO : Hid (chIs ⟨f, l⟩ = chEq ⟨f, l⟩ ⟨nf, nl⟩) := by unfold Hid chIs; rw [HR.out]; rfl
    have csx := fun o => same_ch f nf (.slice A l.length c) (.slice A1 nl.length c1) l nl S _ (w1.alloc o) (Rd.below ⟨A, c, rfl, hA, hr⟩ (hba o)) (Rd.below (S := fun k => (w.alloc (.cells #[.int .i64 f, .slice A l.length c] 24)).heap.size ≤ k) ⟨A1, c1, rfl, hA1, hr1⟩ ((Below.refl _ _).alloc (Nat.le_refl _) _))
    go_wp2_with fail
    with_reducible refine (csx _).mono ?_
    rintro e w2 ⟨rfl, hb2⟩
    go_wp2_with fail
    go_ret
    exact ⟨by rw [HO.out]; rfl, (hba _).trans (hb2.mono (hba _).size)⟩
  · have HO : Hid (chIs ⟨f, l⟩ = false) := by unfold Hid chIs; rw [HR.out]; simp [he]
    have heb : (er == 0) = false := by simp [he]
    have HE := Lib.hid he
    clear he
    go_wp2_with fail
    go_ret
    exact ⟨by rw [HO.out]; rfl, hba _⟩
end Go.Proofs.YtaemajcpgmaapaaDoor
