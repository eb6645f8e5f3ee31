/- The walk: blotterlaw07.FollowLong. -/
import Derived.Test.YtaemajcpgmaapaaDoorAwake7
import Derived.Test.YtaemajcpgmaapaaDoorFolM
import Derived.Test.YtaemajcpgmaapaaDoorSame4
namespace Go.Proofs.YtaemajcpgmaapaaDoor
open Go.RowKit

theorem opsEq_self : ∀ l, opsEq l l = true
  | [] => rfl
  | o :: l => by simp [opsEq, opEq, attrsEq, opsEq_self l]
theorem chEq_self (c : Change) : chEq c c = true := by simp [chEq, opsEq_self]
theorem chEq_of {a b : Change} (h : a = b) : chEq a b = true := h ▸ chEq_self a
/-- What follows is in its normal form. -/
theorem fol_is {first : Bool} {a b : Change} (h : (folR first a b).2 = 0) : chIs (folR first a b).1 = true := by
  obtain ⟨r, _, hn, _⟩ := fol_fits h
  have e : nmR (folR first a b).1 = ((folR first a b).1, 0) := by
    unfold nmR
    rw [if_pos (toR_iff.2 r), hn]
  unfold chIs
  rw [e, chEq_self]
  rfl
theorem to_of {c : Change} {R : Int × Int} (h : toR c = R) (h2 : R.2 = 0) : toR c = (R.1, 0) := by rw [h, ← h2]

/-- A changeset in a box of its own: it stays where nothing below was turned. -/
structure BoxC (w : World) (B : Nat) (c : Change) (v : Value) (S : Nat → Prop) : Prop where
  box : w.heap[B]? = some (.cells #[.int .i64 c.from_, v] 24 (0, 0))
  rd : Rd KO S w v c.ops
theorem BoxC.lt {w : World} {B : Nat} {c : Change} {v : Value} {S : Nat → Prop} (h : BoxC w B c v S) : B < w.heap.size := (Array.getElem?_eq_some_iff.1 h.box).1
theorem BoxC.next {w w' : World} {B : Nat} {c : Change} {v : Value} {S : Nat → Prop} (h : BoxC w B c v S) (hb : Below w.heap.size w w') : BoxC w' B c v S :=
  ⟨(hb.block _ h.lt).trans h.box, h.rd.below hb⟩
theorem BoxC.c0 {w : World} {B : Nat} {c : Change} {v : Value} {S : Nat → Prop} (h : BoxC w B c v S) : w.cell? ⟨B, 0, none⟩ = some (.int .i64 c.from_) := cell_of_row _ _ 0 _ _ _ h.box
theorem BoxC.c1 {w : World} {B : Nat} {c : Change} {v : Value} {S : Nat → Prop} (h : BoxC w B c v S) : w.cell? ⟨B, 1, none⟩ = some v := cell_of_row _ _ 1 _ _ _ h.box
theorem BoxC.new {w : World} {c : Change} {v : Value} {S : Nat → Prop} (h : Rd KO S w v c.ops) : BoxC (w.alloc (.cells #[.int .i64 c.from_, v] 24)) w.heap.size c v S :=
  ⟨heap_alloc_new w _, h.below ((Below.refl _ _).alloc (Nat.le_refl _) _)⟩
theorem BoxC.alloc {w : World} {B : Nat} {c : Change} {v : Value} {S : Nat → Prop} (h : BoxC w B c v S) (o : Obj) : BoxC (w.alloc o) B c v S := h.next ((Below.refl _ _).alloc (Nat.le_refl _) o)

set_option maxRecDepth 100000 in
set_option maxHeartbeats 4000000 in
theorem long_any (fa : Int) (va : Value) (la : List Op) (S1 : Nat → Prop) (fb : Int) (vb : Value) (lb : List Op) (S2 : Nat → Prop) (first : Bool) (w : World) (ha : Rd KO S1 w va la) (hb : Rd KO S2 w vb lb) (hT : Tabs w) :
    Calls Tryd.prog 5 #[.agg #[.int .i64 fa, va], .agg #[.int .i64 fb, vb], .bool first] w fun e w' => e = .returned (.bool true) ∧ Below w.heap.size w w' := by
  have hba : Below w.heap.size w ((w.alloc (.cells #[.int .i64 fa, va] 24)).alloc (.cells #[.int .i64 fb, vb] 24)) := ((Below.refl _ _).alloc (Nat.le_refl _) _).alloc (by simp) _
  have B1 : BoxC ((w.alloc (.cells #[.int .i64 fa, va] 24)).alloc (.cells #[.int .i64 fb, vb] 24)) w.heap.size ⟨fa, la⟩ va S1 := (BoxC.new (c := ⟨fa, la⟩) ha).alloc _
  have B2 : BoxC ((w.alloc (.cells #[.int .i64 fa, va] 24)).alloc (.cells #[.int .i64 fb, vb] 24)) (w.heap.size + 1) ⟨fb, lb⟩ vb S2 := by
    have := BoxC.new (w := w.alloc (.cells #[.int .i64 fa, va] 24)) (c := ⟨fb, lb⟩) (hb.below ((Below.refl _ _).alloc (Nat.le_refl _) _))
    simpa using this
  have cw := awake7 _ (hT.below hba)
  have cF1 := fun W h1 h2 h3 => follow_any fa fb va vb la lb S1 S2 first W h1 h2 h3
  have cF2 := fun W h1 h2 h3 => follow_any fb fa vb va lb la S2 S1 (!first) W h1 h2 h3
  have P0 : Hid ((folR first ⟨fa, la⟩ ⟨fb, lb⟩).2 = 0 → (folR (!first) ⟨fb, lb⟩ ⟨fa, la⟩).2 = 0 →
      ∃ n m k, toR ⟨fa, la⟩ = (n, 0) ∧ toR ⟨fb, lb⟩ = (m, 0) ∧ toR (folR first ⟨fa, la⟩ ⟨fb, lb⟩).1 = (k, 0) ∧ toR (folR (!first) ⟨fb, lb⟩ ⟨fa, la⟩).1 = (k, 0) ∧ (folR first ⟨fa, la⟩ ⟨fb, lb⟩).1.from_ = n ∧ (folR (!first) ⟨fb, lb⟩ ⟨fa, la⟩).1.from_ = m ∧
        chIs (folR first ⟨fa, la⟩ ⟨fb, lb⟩).1 = true ∧ chIs (folR (!first) ⟨fb, lb⟩ ⟨fa, la⟩).1 = true) := by
    intro h1 h2
    obtain ⟨ra, rb, _, _⟩ := folR_ok h1
    obtain ⟨_, f1, _, _⟩ := fol_fits h1
    obtain ⟨_, f2, _, _⟩ := fol_fits h2
    obtain ⟨z1, z2, z3⟩ := fol_long h1 h2
    exact ⟨_, _, _, to_of rfl (toR_iff.2 ra), to_of rfl (toR_iff.2 rb), to_of rfl z1, (to_of rfl z2).trans (by rw [z3]), f1, f2, fol_is h1, fol_is h2⟩
  change ∀ W, _ → _ → _ → Calls _ _ _ _ (ChQ _ (folR first ⟨fa, la⟩ ⟨fb, lb⟩)) at cF1
  change ∀ W, _ → _ → _ → Calls _ _ _ _ (ChQ _ (folR (!first) ⟨fb, lb⟩ ⟨fa, la⟩)) at cF2
  generalize folR first ⟨fa, la⟩ ⟨fb, lb⟩ = X at *
  generalize folR (!first) ⟨fb, lb⟩ ⟨fa, la⟩ = Y at *
  obtain ⟨⟨xf, xo⟩, xe⟩ := X
  obtain ⟨⟨yf, yo⟩, ye⟩ := Y
  dsimp only at P0
  obtain ⟨A1, c1, rfl, hA1, hr1⟩ := ha
  obtain ⟨A2, c2, rfl, hA2, hr2⟩ := hb
  have HB1 := Lib.hid B1
  have HB2 := Lib.hid B2
  have HBA := Lib.hid hba
  clear B1 B2 hba hr1 hr2
  go_enter Tryd.func5, Tryd.ntmps5
  go_wp2_with fail
  with_reducible refine cw.mono ?_
  rintro e w1 ⟨rfl, hb1⟩
  have hbw1 : Below w.heap.size w w1 := HBA.out.trans (hb1.mono HBA.out.size)
  have B1 := HB1.out.next hb1
  have B2 := HB2.out.next hb1
  have a0 := B1.c0
  have a1 := B1.c1
  have a2 := B2.c0
  have a3 := B2.c1
  dsimp only at a0 a1 a2 a3
  have kF1 := cF1 w1 B1.rd B2.rd (hT.below hbw1)
  have HB1 := Lib.hid B1
  have HB2 := Lib.hid B2
  clear cw hb1 B1 B2
  go_wp2_with fail
  with_reducible refine kF1.mono ?_
  rintro e w2 ⟨v3, rfl, hb2, hr3⟩
  have hbw2 : Below w.heap.size w w2 := hbw1.trans (hb2.mono hbw1.size)
  obtain ⟨S3, hrd3⟩ : ∃ S3, Rd KO S3 w2 v3 xo := ⟨_, hr3.rd⟩
  obtain ⟨A3, c3, rfl, hA3, hs3⟩ := hr3.rd
  dsimp only
  clear a0 a1 a2 a3 kF1
  have B1 := (HB1.out.next hb2).alloc (.cells #[.int .i64 xf, .slice A3 xo.length c3] 24)
  have B2 := (HB2.out.next hb2).alloc (.cells #[.int .i64 xf, .slice A3 xo.length c3] 24)
  have B3 := BoxC.new (c := ⟨xf, xo⟩) hrd3
  have hbw2' : Below w.heap.size w (w2.alloc (.cells #[.int .i64 xf, .slice A3 xo.length c3] 24)) := hbw2.alloc hbw2.size _
  have a0 := B1.c0
  have a1 := B1.c1
  have a2 := B2.c0
  have a3 := B2.c1
  dsimp only at a0 a1 a2 a3
  have kF2 := cF2 _ B2.rd B1.rd (hT.below hbw2')
  have HB1 := Lib.hid B1
  have HB2 := Lib.hid B2
  have HB3 := Lib.hid B3
  clear B1 B2 B3 hb2 hs3 hr3
  go_wp2_with fail
  with_reducible refine kF2.mono ?_
  rintro e w3 ⟨v4, rfl, hb3, hr4⟩
  have hbw3 : Below w.heap.size w w3 := hbw2'.trans (hb3.mono hbw2'.size)
  obtain ⟨S4, hrd4⟩ : ∃ S4, Rd KO S4 w3 v4 yo := ⟨_, hr4.rd⟩
  obtain ⟨A4, c4, rfl, hA4, hs4⟩ := hr4.rd
  dsimp only
  clear a0 a1 a2 a3 kF2
  have B1 := (HB1.out.next hb3).alloc (.cells #[.int .i64 yf, .slice A4 yo.length c4] 24)
  have B2 := (HB2.out.next hb3).alloc (.cells #[.int .i64 yf, .slice A4 yo.length c4] 24)
  have B3 := (HB3.out.next hb3).alloc (.cells #[.int .i64 yf, .slice A4 yo.length c4] 24)
  have B4 := BoxC.new (c := ⟨yf, yo⟩) hrd4
  have hbw3' : Below w.heap.size w (w3.alloc (.cells #[.int .i64 yf, .slice A4 yo.length c4] 24)) := hbw3.alloc hbw3.size _
  clear hb3 hs4 hr4
  by_cases he : xe = 0
  · subst he
    by_cases hf : ye = 0
    · subst hf
      obtain ⟨n, m, k, t1, t2, t3, t4, rfl, rfl, i1, i2⟩ := P0.out rfl rfl
      have d1 := fun W h1 h2 => to_any fa (.slice A1 la.length c1) la S1 W h1 h2
      have d2 := fun W h1 h2 => to_any fb (.slice A2 lb.length c2) lb S2 W h1 h2
      have d3 := fun W h1 h2 => to_any xf (.slice A3 xo.length c3) xo S3 W h1 h2
      have d4 := fun W h1 h2 => to_any yf (.slice A4 yo.length c4) yo S4 W h1 h2
      have i3 := fun W h1 h2 => is_ch xf (.slice A3 xo.length c3) xo S3 W h1 h2
      have i4 := fun W h1 h2 => is_ch yf (.slice A4 yo.length c4) yo S4 W h1 h2
      rw [t1] at d1
      rw [t2] at d2
      rw [t3] at d3
      rw [t4] at d4
      rw [i1] at i3
      rw [i2] at i4
      have a0 := B1.c0
      have a1 := B1.c1
      dsimp only at a0 a1
      have k1 := d1 _ B1.rd (hT.below hbw3')
      have HB2 := Lib.hid B2
      have HB3 := Lib.hid B3
      have HB4 := Lib.hid B4
      clear B1 B2 B3 B4 hrd3 hrd4 t1 t2 t3 t4 i1 i2 d1 P0 HB1
      go_wp2_with fail
      with_reducible refine k1.mono ?_
      rintro e w4 ⟨rfl, hb4⟩
      unfold R2
      dsimp only
      have hbw4 : Below w.heap.size w w4 := hbw3'.trans (hb4.mono hbw3'.size)
      have B2 := HB2.out.next hb4
      have B3 := HB3.out.next hb4
      have B4 := HB4.out.next hb4
      have b0 := B2.c0
      have b1 := B2.c1
      dsimp only at b0 b1
      have k2 := d2 _ B2.rd (hT.below hbw4)
      have HC3 := Lib.hid B3
      have HC4 := Lib.hid B4
      clear B2 B3 B4 HB2 HB3 HB4 hb4 a0 a1 k1 d2
      go_wp2_with fail
      with_reducible refine k2.mono ?_
      rintro e w5 ⟨rfl, hb5⟩
      unfold R2
      dsimp only
      have hbw5 : Below w.heap.size w w5 := hbw4.trans (hb5.mono hbw4.size)
      have B3 := HC3.out.next hb5
      have B4 := HC4.out.next hb5
      have b2 := B3.c0
      have b3 := B3.c1
      dsimp only at b2 b3
      have k3 := d3 _ B3.rd (hT.below hbw5)
      have HD3 := Lib.hid B3
      have HD4 := Lib.hid B4
      clear B3 B4 HC3 HC4 hb5 b0 b1 k2 d3
      go_wp2_with fail
      with_reducible refine k3.mono ?_
      rintro e w6 ⟨rfl, hb6⟩
      unfold R2
      dsimp only
      have hbw6 : Below w.heap.size w w6 := hbw5.trans (hb6.mono hbw5.size)
      have B3 := HD3.out.next hb6
      have B4 := HD4.out.next hb6
      have b4 := B4.c0
      have b5 := B4.c1
      dsimp only at b4 b5
      have k4 := d4 _ B4.rd (hT.below hbw6)
      have HE3 := Lib.hid B3
      have HE4 := Lib.hid B4
      clear B3 B4 HD3 HD4 hb6 b2 b3 k3 d4
      go_wp2_with fail
      with_reducible refine k4.mono ?_
      rintro e w7 ⟨rfl, hb7⟩
      unfold R2
      dsimp only
      have hbw7 : Below w.heap.size w w7 := hbw6.trans (hb7.mono hbw6.size)
      have B3 := HE3.out.next hb7
      have B4 := HE4.out.next hb7
      have e0 := B3.c0
      have e1 := B3.c1
      have e2 := B4.c0
      have e3 := B4.c1
      dsimp only at e0 e1 e2 e3
      have k5 := i3 _ B3.rd (hT.below hbw7)
      have HF4 := Lib.hid B4
      clear B3 B4 HE3 HE4 hb7 b4 b5 k4 i3
      go_wp2_with fail
      with_reducible refine k5.mono ?_
      rintro e w8 ⟨rfl, hb8⟩
      have hbw8 : Below w.heap.size w w8 := hbw7.trans (hb8.mono hbw7.size)
      have B4 := HF4.out.next hb8
      have f2 := B4.c0
      have f3 := B4.c1
      dsimp only at f2 f3
      have k6 := i4 _ B4.rd (hT.below hbw8)
      clear B4 HF4 hb8 e0 e1 e2 e3 k5 i4
      go_wp2_with fail
      with_reducible refine k6.mono ?_
      rintro e w9 ⟨rfl, hb9⟩
      go_wp2_with fail
      go_ret
      exact ⟨rfl, hbw8.trans (hb9.mono hbw8.size)⟩
    · have hfb : (ye != 0) = true := by simp [hf]
      have HF := Lib.hid hf
      clear hf P0
      go_wp2_with fail
      go_ret
      exact ⟨rfl, hbw3'⟩
  · have heb : (xe != 0) = true := by simp [he]
    have HE := Lib.hid he
    clear he P0
    go_wp2_with fail
    go_ret
    exact ⟨rfl, hbw3'⟩
end Go.Proofs.YtaemajcpgmaapaaDoor
