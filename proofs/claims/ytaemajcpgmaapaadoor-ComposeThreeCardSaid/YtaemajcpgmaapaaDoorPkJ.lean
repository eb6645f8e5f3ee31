/- The walk: follow.Follow. | blotterlaw03.Put; blotterlaw07.awake. | The walk: blotterlaw07.FollowLong. -/
import Derived.Test.YtaemajcpgmaapaaDoorPkI
import Derived.Test.YtaemajcpgmaapaaDoorPkG
import Derived.Test.YtaemajcpgmaapaaDoorPkE
namespace Go.Proofs.YtaemajcpgmaapaaDoor
open Go.RowKit

/-- A changeset and an error as an answer, in memory of the call's own. -/
def ChQ (w : World) (R : Change × Int) (e : Ending) (w' : World) : Prop :=
  ∃ v', e = .returned (.tuple #[.agg #[.int .i64 R.1.from_, v'], .int .i64 R.2]) ∧ Below w.heap.size w w' ∧ RowO w.heap.size w' v' R.1.ops
theorem fol_end {w W : World} (hb : Below w.heap.size w W) (hres : W.heap[w.heap.size + 2]? = some (.cells #[.int .i64 0, .slice none 0 0] 24 (0, 0))) (a : Act) (R : Change × Int) (u : Value)
    (hr : RowO w.heap.size W u R.1.ops) (h7 : a.tmps[7]?.getD undef = .int .i64 R.2) (h6 : a.tmps[6]?.getD undef = .pointer (some ⟨w.heap.size + 2, 0, none⟩)) (hd : a.defers = []) :
    bodyPost Tryd.prog Tryd.f26 (ChQ w R) .ret a ((W.setCell ⟨w.heap.size + 2, 0, none⟩ (.int .i64 R.1.from_)).setCell ⟨w.heap.size + 2, 1, none⟩ u) := by
  have k5 : W.cell? ⟨w.heap.size + 2, 0, none⟩ = some (.int .i64 0) := cell_of_row _ _ 0 _ _ _ hres
  have k6 : W.cell? ⟨w.heap.size + 2, 1, none⟩ = some (.slice none 0 0) := cell_of_row _ _ 1 _ _ _ hres
  have r0 : ((W.setCell ⟨w.heap.size + 2, 0, none⟩ (.int .i64 R.1.from_)).setCell ⟨w.heap.size + 2, 1, none⟩ u).cell? ⟨w.heap.size + 2, 0, none⟩ = some (.int .i64 R.1.from_) := (World.cell?_setCell_other _ _ _ _ (by simp)).trans (World.cell?_setCell_same _ _ _ k5)
  have r1 : ((W.setCell ⟨w.heap.size + 2, 0, none⟩ (.int .i64 R.1.from_)).setCell ⟨w.heap.size + 2, 1, none⟩ u).cell? ⟨w.heap.size + 2, 1, none⟩ = some u := World.cell?_setCell_same _ _ _ ((World.cell?_setCell_other _ _ _ _ (by simp)).trans k6)
  have hc : Chg (fun k => k = w.heap.size + 2) W ((W.setCell ⟨w.heap.size + 2, 0, none⟩ (.int .i64 R.1.from_)).setCell ⟨w.heap.size + 2, 1, none⟩ u) :=
    ((Chg.refl (fun k => k = w.heap.size + 2) W).setCell (p := ⟨w.heap.size + 2, 0, none⟩) _ fun _ => rfl).setCell (p := ⟨w.heap.size + 2, 1, none⟩) _ fun _ => rfl
  refine bodyPost_ret (v := .tuple #[.agg #[.int .i64 R.1.from_, u], .int .i64 R.2]) ?_ hd ⟨u, rfl, hb.trans (hc.below hb.size fun k hk => by rw [hk]; omega), hr.off hres (by decide) (by decide) hc⟩
  simp [results, Tryd.results26, go_sem, r0, r1, h7, h6]

theorem op_field_text (k n : Int) (s : ByteArray) (va : Value) (w : World) : (Instr.field 30 (.agg #[.int .i64 k, .int .i64 n, .string s, va]) 2).run Tryd.prog w = .ok (.string s) w := by kernel_rfl
/-- What read answers. -/
def ReadQ (l : List Op) (w : World) (e : Ending) (w' : World) : Prop :=
  ∃ rb v', e = .returned (.pointer (some ⟨rb, 0, none⟩)) ∧ Below w.heap.size w w' ∧ w.heap.size ≤ rb ∧ w'.heap[rb]? = some (.cells #[v'] 79 (0, 0)) ∧ RowO w.heap.size w' v' l
theorem read_q {f : Int} {v : Value} {l : List Op} {S : Nat → Prop} {w : World} (h : Rd KO S w v l) (hT : Tabs w) (hR : Rt ⟨f, l⟩) : Calls Tryd.prog 72 #[.agg #[.int .i64 f, v]] w (ReadQ (normL l) w) :=
  (read_any f v l S w h hT).mono fun e w' h => by
    obtain ⟨rb, v', h1, h2, h3, h4, h5⟩ := h
    rw [hR.nm] at h5
    exact ⟨rb, v', h1, h2, h3, h4, h5⟩

set_option maxRecDepth 100000 in
set_option maxHeartbeats 4000000 in
theorem follow_any (fa fb : Int) (va vb : Value) (la lb : List Op) (S1 S2 : Nat → Prop) (first : Bool) (w : World) (ha : Rd KO S1 w va la) (hb : Rd KO S2 w vb lb) (hT : Tabs w) :
    Calls Tryd.prog 26 #[.agg #[.int .i64 fa, va], .agg #[.int .i64 fb, vb], .bool first] w (ChQ w (folR first ⟨fa, la⟩ ⟨fb, lb⟩)) := by
  have ct := to_any fa va la S1
  have cr := right_ch fb vb lb S2
  have crd := read_any
  obtain ⟨A1, c1, rfl, hA1, hr1⟩ := ha
  obtain ⟨A2, c2, rfl, hA2, hr2⟩ := hb
  have hb0 : Below w.heap.size w (((w.alloc (.cells #[.int .i64 fa, .slice A1 la.length c1] 24)).alloc (.cells #[.int .i64 fb, .slice A2 lb.length c2] 24)).alloc (.cells #[.int .i64 0, .slice none 0 0] 24)) :=
    (((Below.refl _ _).alloc (Nat.le_refl _) _).alloc (by simp) _).alloc (by simp; omega) _
  have ct1 := ct _ (Rd.below ⟨A1, c1, rfl, hA1, hr1⟩ hb0) (hT.below hb0)
  obtain ⟨ra, ea, HA⟩ : ∃ ra ea, Hid (toR ⟨fa, la⟩ = (ra, ea)) := ⟨_, _, rfl⟩
  obtain ⟨rb, eb, HB⟩ : ∃ rb eb, Hid (toR ⟨fb, lb⟩ = (rb, eb)) := ⟨_, _, rfl⟩
  rw [HA.out] at ct1
  rw [HB.out] at cr
  have g0 : (((w.alloc (.cells #[.int .i64 fa, .slice A1 la.length c1] 24)).alloc (.cells #[.int .i64 fb, .slice A2 lb.length c2] 24)).alloc (.cells #[.int .i64 0, .slice none 0 0] 24)).heap[w.heap.size]? = some (.cells #[.int .i64 fa, .slice A1 la.length c1] 24 (0, 0)) :=
    (Below.heap_alloc _ _ _ (by simp; omega)).trans ((Below.heap_alloc _ _ _ (by simp)).trans (heap_alloc_new w _))
  have g1 : (((w.alloc (.cells #[.int .i64 fa, .slice A1 la.length c1] 24)).alloc (.cells #[.int .i64 fb, .slice A2 lb.length c2] 24)).alloc (.cells #[.int .i64 0, .slice none 0 0] 24)).heap[w.heap.size + 1]? = some (.cells #[.int .i64 fb, .slice A2 lb.length c2] 24 (0, 0)) :=
    (Below.heap_alloc _ _ _ (by simp)).trans (by simpa using heap_alloc_new (w.alloc (.cells #[.int .i64 fa, .slice A1 la.length c1] 24)) (.cells #[.int .i64 fb, .slice A2 lb.length c2] 24))
  have g2 : (((w.alloc (.cells #[.int .i64 fa, .slice A1 la.length c1] 24)).alloc (.cells #[.int .i64 fb, .slice A2 lb.length c2] 24)).alloc (.cells #[.int .i64 0, .slice none 0 0] 24)).heap[w.heap.size + 2]? = some (.cells #[.int .i64 0, .slice none 0 0] 24 (0, 0)) := by
    simpa using heap_alloc_new ((w.alloc (.cells #[.int .i64 fa, .slice A1 la.length c1] 24)).alloc (.cells #[.int .i64 fb, .slice A2 lb.length c2] 24)) (.cells #[.int .i64 0, .slice none 0 0] 24)
  obtain ⟨R, HRR⟩ : ∃ R, Hid (folR first ⟨fa, la⟩ ⟨fb, lb⟩ = R) := ⟨_, rfl⟩
  rw [HRR.out]
  have H0 := Lib.hid g0
  have H1 := Lib.hid g1
  have H2 := Lib.hid g2
  have HC := Lib.hid ct1
  clear g0 g1 g2 ct ct1
  go_enter Tryd.func26, Tryd.ntmps26
  go_wp2_with fail
  with_reducible refine HC.out.mono ?_
  rintro e w1 ⟨rfl, hb1⟩
  unfold R2
  dsimp only
  have hbw1 : Below w.heap.size w w1 := hb0.trans (hb1.mono hb0.size)
  have k0 := (hb1.block _ (by simp; omega)).trans H0.out
  have k1 := (hb1.block _ (by simp)).trans H1.out
  have k2 := (hb1.block _ (by simp)).trans H2.out
  have hz1 : w.heap.size + 2 < w1.heap.size := (Array.getElem?_eq_some_iff.1 k2).1
  clear hb1 H0 H1 H2 HC
  have HK0 := Lib.hid k0
  have HK1 := Lib.hid k1
  have HK2 := Lib.hid k2
  by_cases hea : ea = 0
  · subst hea
    have j0 : w1.cell? ⟨w.heap.size + 1, 0, none⟩ = some (.int .i64 fb) := cell_of_row _ _ 0 _ _ _ k1
    have j1 : w1.cell? ⟨w.heap.size + 1, 1, none⟩ = some (.slice A2 lb.length c2) := cell_of_row _ _ 1 _ _ _ k1
    have cr1 := cr _ (Rd.below ⟨A2, c2, rfl, hA2, hr2⟩ hbw1) (hT.below hbw1)
    clear k0 k1 k2 cr
    go_wp2_with fail
    with_reducible refine cr1.mono ?_
    rintro e w2 ⟨rfl, hb2⟩
    dsimp only
    clear cr1
    have k0 := (hb2.block _ (by omega)).trans HK0.out
    have k1 := (hb2.block _ (by omega)).trans HK1.out
    have k2 := (hb2.block _ (by omega)).trans HK2.out
    have hbw2 : Below w.heap.size w w2 := hbw1.trans (hb2.mono hbw1.size)
    by_cases heb : eb = 0
    · subst heb
      have j0a : w2.cell? ⟨w.heap.size, 0, none⟩ = some (.int .i64 fa) := cell_of_row _ _ 0 _ _ _ k0
      have j1a : w2.cell? ⟨w.heap.size, 1, none⟩ = some (.slice A1 la.length c1) := cell_of_row _ _ 1 _ _ _ k0
      have j0b : w2.cell? ⟨w.heap.size + 1, 0, none⟩ = some (.int .i64 fb) := cell_of_row _ _ 0 _ _ _ k1
      have j1b : w2.cell? ⟨w.heap.size + 1, 1, none⟩ = some (.slice A2 lb.length c2) := cell_of_row _ _ 1 _ _ _ k1
      have hz2 : w.heap.size + 2 < w2.heap.size := (Array.getElem?_eq_some_iff.1 k2).1
      have HE := Lib.hid k2
      by_cases hf : fa = fb
      · subst hf
        have hfb : (fa != fa) = false := by simp
        have RA : Rt ⟨fa, la⟩ := toR_rt (by rw [HA.out])
        have RB : Rt ⟨fa, lb⟩ := toR_rt (by rw [HB.out])
        have crA : ∀ W, Below w2.heap.size w2 W → Calls Tryd.prog 72 #[.agg #[.int .i64 fa, .slice A1 la.length c1]] W (ReadQ (normL la) W) := fun W hB => read_q (Rd.below ⟨A1, c1, rfl, hA1, hr1⟩ (hbw2.trans (hB.mono hbw2.size))) (hT.below (hbw2.trans (hB.mono hbw2.size))) RA
        have crB : ∀ W, Below w2.heap.size w2 W → Calls Tryd.prog 72 #[.agg #[.int .i64 fa, .slice A2 lb.length c2]] W (ReadQ (normL lb) W) := fun W hB => read_q (Rd.below ⟨A2, c2, rfl, hA2, hr2⟩ (hbw2.trans (hB.mono hbw2.size))) (hT.below (hbw2.trans (hB.mono hbw2.size))) RB
        have hSS : ∀ W, Below w2.heap.size w2 W → W.cell? ⟨w.heap.size, 0, none⟩ = some (.int .i64 fa) ∧ W.cell? ⟨w.heap.size, 1, none⟩ = some (.slice A1 la.length c1) ∧ W.cell? ⟨w.heap.size + 1, 0, none⟩ = some (.int .i64 fa) ∧ W.cell? ⟨w.heap.size + 1, 1, none⟩ = some (.slice A2 lb.length c2) ∧ Below w2.heap.size w2 W := fun W hB =>
          ⟨(hB.cell (p := ⟨w.heap.size, 0, none⟩) (by show w.heap.size < _; omega)).trans j0a, (hB.cell (p := ⟨w.heap.size, 1, none⟩) (by show w.heap.size < _; omega)).trans j1a, (hB.cell (p := ⟨w.heap.size + 1, 0, none⟩) (by show w.heap.size + 1 < _; omega)).trans j0b, (hB.cell (p := ⟨w.heap.size + 1, 1, none⟩) (by show w.heap.size + 1 < _; omega)).trans j1b, hB⟩
        clear k0 k1 k2
        go_wp2_with fail
        go_region_held3 (fun w' => w'.cell? ⟨w.heap.size, 0, none⟩ = some (.int .i64 fa) ∧ w'.cell? ⟨w.heap.size, 1, none⟩ = some (.slice A1 la.length c1) ∧ w'.cell? ⟨w.heap.size + 1, 0, none⟩ = some (.int .i64 fa) ∧ w'.cell? ⟨w.heap.size + 1, 1, none⟩ = some (.slice A2 lb.length c2) ∧ Below w2.heap.size w2 w')
          (first | exact hSS _ (Below.refl _ _).drew | exact hSS _ hB4 | exact hSS _ hB3 | go_keep)
          (first
            | (go_at_call 72; (with_reducible refine (crA _ (Below.refl _ _).drew).mono ?_); rintro e w3 ⟨rb1, v1, rfl, hb3, hl3, hp3, hr3⟩; have hB3 : Below w2.heap.size w2 w3 := (Below.refl _ _).drew.trans hb3)
            | (go_at_call 72; (with_reducible refine (crB _ hB3).mono ?_); rintro e w4 ⟨rb2, v2, rfl, hb4, hl4, hp4, hr4⟩; have hB4 : Below w2.heap.size w2 w4 := hB3.trans (hb4.mono hB3.size)))
        have hz3 : w2.heap.size ≤ w3.heap.size := hB3.size
        have hz4 : w3.heap.size ≤ w4.heap.size := hb4.size
        have hl3' : w2.heap.size ≤ rb1 := hl3
        have hr1s : rb1 < w3.heap.size := (Array.getElem?_eq_some_iff.1 hp3).1
        have hr2s : rb2 < w4.heap.size := (Array.getElem?_eq_some_iff.1 hp4).1
        have hww : w.heap.size ≤ w2.heap.size := hbw2.size
        have inv0 : FInv w (w4.alloc (.cells #[.slice none 0 0, .int .i64 0, .int .i64 ra] 77)) rb1 rb2 w4.heap.size v1 v2 (.slice none 0 0) (normL la) (normL lb) ([], 0) ra :=
          ⟨(hbw2.trans (hB4.mono hbw2.size)).alloc (by omega) _, (Below.heap_alloc w4 _ _ (by omega)).trans ((hB4.block _ (by omega)).trans HE.out), (Below.heap_alloc w4 _ _ (by omega)).trans ((hb4.block _ hr1s).trans hp3), (Below.heap_alloc w4 _ _ (by omega)).trans hp4,
            heap_alloc_new w4 _, ((hr3.mono (show w.heap.size ≤ w2.heap.size from hww)).below hb4).below ((Below.refl _ _).alloc (Nat.le_refl _) _), (hr4.mono (by omega)).below ((Below.refl _ _).alloc (Nat.le_refl _) _), OwnO.nil _ _, by omega, by omega, by omega, by omega,
            fun k h1 h2 => by have := (hr3.lt k h1).2.1; have := (hr4.lt k h2).1; omega, fun k _ h2 => by simp [Value.ownBlock] at h2, fun k _ h2 => by simp [Value.ownBlock] at h2⟩
        have rel0 : FRel first (folOut first ⟨fa, la⟩ ⟨fa, lb⟩) ra (ms (normL la) + ms (normL lb)) (normL la) (normL lb) ([], 0) ra (ms (normL la) + ms (normL lb)) := frel_start RA RB
        have hK1 := RA.ms
        have hK2 := RB.ms
        have hKK : ms (normL la) + ms (normL lb) ≤ 44000 := Nat.le_trans (Nat.add_le_add hK1 hK2) (by omega)
        have HF : Hid (R = if 20000 < (folOut first ⟨fa, la⟩ ⟨fa, lb⟩).foldl lStep ra then (⟨0, []⟩, 3) else if 2000 < (normL (folOut first ⟨fa, la⟩ ⟨fa, lb⟩)).length then (⟨0, []⟩, 2) else (⟨ra, normL (folOut first ⟨fa, la⟩ ⟨fa, lb⟩)⟩, 0)) := by
          rw [Hid, ← HRR.out]
          unfold folR
          rw [HA.out, HB.out, if_neg (by simp), if_neg (by simp), if_neg (by simp)]
        clear RA RB crA crB hSS hB3 hB4 hb3 hb4 hl3 hp3 hr3 hl4 hp4 hr4 j0a j1a j0b j1b HE HK0 HK1 HK2 HRR HA HB hbw1 hb2 hz3 hz4 hl3' hr1s hr2s hww hK1 hK2 hz1 hz2 hr1 hr2 hA1 hA2 hbw2 hb0
        generalize folOut first ⟨fa, la⟩ ⟨fa, lb⟩ = F at *
        generalize normL la = LA at *
        generalize normL lb = LB at *
        have HR0 := Lib.hid rel0
        have HI0 := Lib.hid inv0
        clear rel0 inv0
        go_wp2_with fail
        go_loopg [] (ms LA + ms LB + 1) (fun g wr => ∃ X Y s long k vx vy vw, k < g ∧ FInv w wr rb1 rb2 w4.heap.size vx vy vw X Y s long ∧ FRel first F ra (ms LA + ms LB) X Y s long k)
        case atStart => exact ⟨_, _, _, _, _, _, _, _, Nat.lt_succ_self _, HI0.out, HR0.out⟩
        case round =>
          obtain ⟨X, Y, s, long, k, vx, vy, vw, hkg, inv, rel⟩ := hrel
          have cx : wr.cell? ⟨rb1, 0, none⟩ = some vx := cell_of_row _ _ 0 _ _ _ inv.hx
          have cy : wr.cell? ⟨rb2, 0, none⟩ = some vy := cell_of_row _ _ 0 _ _ _ inv.hy
          obtain ⟨Ax, nx, ex, _, _⟩ := inv.rx.rd
          obtain ⟨Ay, ny, ey, _, _⟩ := inv.ry.rd
          subst ex ey
          have bd := rel.bd
          by_cases h0 : X.length = 0 ∧ Y.length = 0
          · obtain rfl : X = [] := List.eq_nil_of_length_eq_zero h0.1
            obtain rfl : Y = [] := List.eq_nil_of_length_eq_zero h0.2
            have fin := rel.fin
            have cD := fDone w4.heap.size w.heap.size vw s.1 s.2 long ra wr inv.hw inv.lw inv.ow (by have := bd.1; omega)
            have hdn : doneR ra (s.1, s.2) long = R := by
              rw [HF.out]
              unfold doneR normL normS
              rw [← fin.1, ← fin.2]
            rw [hdn] at cD
            have HI := Lib.hid inv
            clear inv rel fin hdn h0 HF
            simp only [List.length_nil] at *
            go_wp2_with fail
            with_reducible refine cD.mono ?_
            rintro e w5 ⟨v5, rfl, hr5, hc5⟩
            have hres5 := (hc5.block _ HI.out.size.2.2.2 (fun e => e.elim (fun e => heap_ne HI.out.res HI.out.hw (by decide) e) (fun e => own_ne_blockO HI.out.ow HI.out.res (by decide) _ e rfl))).trans HI.out.res
            have hb5 : Below w.heap.size w w5 := HI.out.below.trans (hc5.below HI.out.below.size fun k hk => hk.elim (fun e => by rw [e]; exact HI.out.lw) (fun e => (HI.out.ow.lt k e).1))
            have j5 : w5.frozen? ⟨w.heap.size + 1 + 1, 0, none⟩ = false := frozen_of_row _ _ 0 _ _ hres5
            have j6 : w5.frozen? ⟨w.heap.size + 1 + 1, 1, none⟩ = false := frozen_of_row _ _ 1 _ _ hres5
            have j7 : w5.cell? ⟨w.heap.size + 1 + 1, 0, none⟩ = some (.int .i64 0) := cell_of_row _ _ 0 _ _ _ hres5
            have j8 : w5.cell? ⟨w.heap.size + 1 + 1, 1, none⟩ = some (.slice none 0 0) := cell_of_row _ _ 1 _ _ _ hres5
            have HE5 := Lib.hid hres5
            clear hres5 hc5 cD
            obtain ⟨A5, n5, ev5, _, _⟩ := hr5.rd
            subst ev5
            go_wp2_with fail
            exact fol_end hb5 HE5.out _ R _ hr5 rfl rfl rfl
          · obtain ⟨k, rfl⟩ := rel.pos h0
            have hd : decide (0 < X.length) = true ∨ (decide (0 < X.length) = false ∧ decide (0 < Y.length) = true) := by
              by_cases h : X.length = 0
              · exact .inr ⟨decide_eq_false (by omega), decide_eq_true (by omega)⟩
              · exact .inl (decide_eq_true (by omega))
            have cI : ∀ {rb : Nat} {v : Value} {l : List Op} {b : Bool}, wr.heap[rb]? = some (.cells #[v] 79 (0, 0)) → RowO w.heap.size wr v l → insB l = b → Calls Tryd.prog 73 #[.pointer (some ⟨rb, 0, none⟩)] wr fun e w' => e = .returned (.bool b) ∧ wr = w' := fun h1 h2 h3 => by
              subst h3
              exact (inserts_any _ _ _ _ _ h1 h2).mono fun e w' h => ⟨h.1, h.2.symm⟩
            cases hA : insB Y && (first || !insB X) with
            | true =>
              rw [Bool.and_eq_true] at hA
              cases Y with
              | nil => exact absurd hA.1 (by simp [insB])
              | cons y Y =>
                have cIy := cI inv.hy inv.ry hA.1
                have hyk : y.kind = 2 := by simpa [insB] using hA.1
                have cT := text_any rb2 w.heap.size _ y Y wr inv.hy inv.ry
                have hg : first = true ∨ (first = false ∧ insB X = false) := by
                  cases hf : first with
                  | true => exact .inl rfl
                  | false => right; have := hA.2; rw [hf] at this; simpa using this
                have rel2 := rel.ins hyk hA.2
                have HI := Lib.hid inv
                have HR := Lib.hid rel2
                have hyt := rel.ty y (.head _)
                clear inv rel rel2 hA h0 hyk
                rcases hg with rfl | ⟨rfl, hxi⟩
                · rcases hd with hd1 | ⟨hd1, hd2⟩
                  all_goals
                    go_wp2_with (go_at_call 73; (with_reducible refine cIy.mono ?_); rintro e w' ⟨rfl, rfl⟩)
                    with_reducible refine cT.mono ?_
                    rintro e w5 ⟨va, vy5, rfl, hp5, hr5, ho5, hc5, hv5⟩
                    have inv5 := HI.out.turnY (hc5.mono fun k _ e => .inl e) hp5 hr5 hv5
                    have cN := fInsert w4.heap.size w.heap.size vw s.1 s.2 long y.kind y.n y.text va y.attrs (fun k => va.ownBlock = some k) w5 inv5.hw inv5.lw inv5.ow ho5.rdS (inv5.apart ho5) (by unfold Fits; omega) (fun x hx => by have := bd.2 x hx; omega) (by have := bd.1; omega)
                    have HI5 := Lib.hid inv5
                    clear inv5 hp5 hr5 hc5 hv5 HI cT cIy cI
                    obtain ⟨A5, n5, ev5, _, _⟩ := ho5.rd
                    subst ev5
                    go_wp2_with fail
                    with_reducible refine cN.mono ?_
                    rintro e w6 ⟨rfl, hp6⟩
                    obtain ⟨vw6, inv6⟩ := HI5.out.write hp6
                    have HI6 := Lib.hid inv6
                    clear inv6 hp6 HI5 cN
                    go_wp2_with fail
                    go_roundg (k + 1)
                    case measure => omega
                    case rel => exact ⟨_, _, _, _, _, _, _, _, Nat.lt_succ_self _, HI6.out, HR.out⟩
                · have cIx := cI HI.out.hx HI.out.rx hxi
                  rcases hd with hd1 | ⟨hd1, hd2⟩
                  all_goals
                    go_wp2_with (first | (go_at_call 73; (with_reducible refine cIy.mono ?_); rintro e w' ⟨rfl, rfl⟩) | (go_at_call 73; (with_reducible refine cIx.mono ?_); rintro e w' ⟨rfl, rfl⟩))
                    with_reducible refine cT.mono ?_
                    rintro e w5 ⟨va, vy5, rfl, hp5, hr5, ho5, hc5, hv5⟩
                    have inv5 := HI.out.turnY (hc5.mono fun k _ e => .inl e) hp5 hr5 hv5
                    have cN := fInsert w4.heap.size w.heap.size vw s.1 s.2 long y.kind y.n y.text va y.attrs (fun k => va.ownBlock = some k) w5 inv5.hw inv5.lw inv5.ow ho5.rdS (inv5.apart ho5) (by unfold Fits; omega) (fun x hx => by have := bd.2 x hx; omega) (by have := bd.1; omega)
                    have HI5 := Lib.hid inv5
                    clear inv5 hp5 hr5 hc5 hv5 HI cT cIy cI
                    obtain ⟨A5, n5, ev5, _, _⟩ := ho5.rd
                    subst ev5
                    go_wp2_with fail
                    with_reducible refine cN.mono ?_
                    rintro e w6 ⟨rfl, hp6⟩
                    obtain ⟨vw6, inv6⟩ := HI5.out.write hp6
                    have HI6 := Lib.hid inv6
                    clear inv6 hp6 HI5 cN
                    go_wp2_with fail
                    go_roundg (k + 1)
                    case measure => omega
                    case rel => exact ⟨_, _, _, _, _, _, _, _, Nat.lt_succ_self _, HI6.out, HR.out⟩
            | false =>
              cases hB : insB X with
              | true =>
                cases X with
                | nil => exact absurd hB (by simp [insB])
                | cons x X =>
                  have hxk : x.kind = 2 := by simpa [insB] using hB
                  have cIx := cI inv.hx inv.rx hB
                  have cT := text_any rb1 w.heap.size _ x X wr inv.hx inv.rx
                  have hg : insB Y = false ∨ (insB Y = true ∧ first = false) := by
                    cases hy : insB Y with
                    | false => exact .inl rfl
                    | true => right; rw [hy, hB] at hA; simpa using hA
                  have rel2 := rel.kept hxk hA
                  have HI := Lib.hid inv
                  have HR := Lib.hid rel2
                  have hxt : x.text.size < 9223372036854775807 := by have := inv.rx.fits x (.head _); unfold Fits at this; omega
                  have cU := fun W => Tryd.utf8_RuneCountInString x.text W hxt
                  clear inv rel rel2 hA h0 hxk hB hd
                  rcases hg with hyi | ⟨hyi, rfl⟩
                  all_goals
                    have cIy := cI HI.out.hy HI.out.ry hyi
                    clear hyi
                    go_wp2_with (first | (go_at_call 73; (with_reducible refine cIy.mono ?_); rintro e w' ⟨rfl, rfl⟩) | (go_at_call 73; (with_reducible refine cIx.mono ?_); rintro e w' ⟨rfl, rfl⟩))
                    with_reducible refine cT.mono ?_
                    rintro e w5 ⟨va, vx5, rfl, hp5, hr5, ho5, hc5, hv5⟩
                    have inv5 := HI.out.turnX (hc5.mono fun k _ e => .inl e) hp5 hr5 hv5
                    have HI5 := Lib.hid inv5
                    obtain ⟨A5, n5, ev5, _, _⟩ := ho5.rd
                    subst ev5
                    have hfd := op_field_text x.kind x.n x.text (.slice A5 x.attrs.length n5)
                    clear inv5 hp5 hr5 hc5 hv5 HI cT cIy cIx cI ho5
                    go_wp2_with fail
                    with_reducible refine (cU _).mono ?_
                    rintro e w6 ⟨rfl, pos, rfl⟩
                    have inv6 : FInv w (w5.iter x.text pos) rb1 rb2 w4.heap.size vx5 _ vw X Y s long := HI5.out.far ((Below.refl _ _).alloc (Nat.le_refl _) _)
                    have cN := fKeep w4.heap.size w.heap.size vw s.1 s.2 long 1 (Lib.runeCount x.text) ⟨#[]⟩ (.slice none 0 0) [] (fun _ => False) _ inv6.hw inv6.lw inv6.ow (Rd.nil _ _ _ _ _ (by simp)) (fun _ h => h.elim) (by show (0 : Nat) ≤ _; omega) (fun x hx => by show x.text.size + 0 ≤ _; have := bd.2 x hx; omega) (by have := bd.1; omega)
                    have HI6 := Lib.hid inv6
                    clear inv6 HI5 cU
                    go_wp2_with fail
                    with_reducible refine cN.mono ?_
                    rintro e w7 ⟨rfl, hp7⟩
                    obtain ⟨vw7, inv7⟩ := HI6.out.write hp7
                    have HI7 := Lib.hid inv7
                    clear inv7 hp7 HI6 cN
                    go_wp2_with fail
                    go_roundg (k + 1)
                    case measure => omega
                    case rel => exact ⟨_, _, _, _, _, _, _, _, Nat.lt_succ_self _, HI7.out, HR.out⟩
              | false =>
                cases hC : insB Y with
                | true =>
                  exfalso
                  rw [hC, hB] at hA
                  simp at hA
                | false =>
                  have cIx := cI inv.hx inv.rx hB
                  have cIy := cI inv.hy inv.ry hC
                  have cLx := (left_any rb1 w.heap.size _ X wr inv.hx inv.rx).mono (R' := fun e w' => e = .returned (.int .i64 (leftN X)) ∧ wr = w') fun e w' h => ⟨h.1, h.2.symm⟩
                  have cLy := (left_any rb2 w.heap.size _ Y wr inv.hy inv.ry).mono (R' := fun e w' => e = .returned (.int .i64 (leftN Y)) ∧ wr = w') fun e w' h => ⟨h.1, h.2.symm⟩
                  obtain ⟨p, X', eX⟩ : ∃ p X', takeO (min (leftN X) (leftN Y)) X = (p, X') := ⟨_, _, rfl⟩
                  obtain ⟨q, Y', eY⟩ : ∃ q Y', takeO (min (leftN X) (leftN Y)) Y = (q, Y') := ⟨_, _, rfl⟩
                  have hkq : q.kind = 1 ∨ q.kind = 3 := by have := take_kind (n := min (leftN X) (leftN Y)) rel.gy hC; rw [eY] at this; exact this
                  have hqt : q.text.size ≤ 80000 := by have := (rel.run h0 hB hC).2.2.2.2.2.2; rw [eY] at this; exact this
                  obtain ⟨m1, m2, m3⟩ := rel.met h0 hB hC eX eY hkq
                  have cTx := take_any rb1 w.heap.size _ X (min (leftN X) (leftN Y)) wr inv.hx inv.rx
                  have cTy := fun W v h1 h2 => take_any rb2 w.heap.size v Y (min (leftN X) (leftN Y)) W h1 h2
                  rw [eX] at cTx
                  rw [eY] at cTy
                  have HI := Lib.hid inv
                  clear hA hB hC cI eX eY rel h0 inv hkq
                  rcases hd with hd1 | ⟨hd1, hd2⟩
                  all_goals
                    go_wp2_with (first | (go_at_call 73; (with_reducible refine cIy.mono ?_); rintro e w' ⟨rfl, rfl⟩) | (go_at_call 73; (with_reducible refine cIx.mono ?_); rintro e w' ⟨rfl, rfl⟩) | (go_at_call 78; (with_reducible refine cLx.mono ?_); rintro e w' ⟨rfl, rfl⟩) | (go_at_call 78; (with_reducible refine cLy.mono ?_); rintro e w' ⟨rfl, rfl⟩))
                    with_reducible refine cTx.mono ?_
                    rintro e w5 ⟨vp, vx5, rfl, hp5, hr5, ho5, hc5, hv5⟩
                    have inv5 := HI.out.turnX hc5 hp5 hr5 hv5
                    have cTy2 := cTy w5 _ inv5.hy inv5.ry
                    have HI5 := Lib.hid inv5
                    clear inv5 hp5 hr5 hc5 hv5 HI cTx cTy cIx cIy cLx cLy
                    obtain ⟨Ap, np, evp, _, _⟩ := ho5.rd
                    subst evp
                    go_wp2_with fail
                    with_reducible refine cTy2.mono ?_
                    rintro e w6 ⟨vq, vy6, rfl, hp6, hr6, ho6, hc6, hv6⟩
                    have inv6 := HI5.out.turnY hc6 hp6 hr6 hv6
                    have ho5' := ho5.chg hc6 (fun k hk e => by
                      obtain ⟨cs, hk'⟩ := ho5.block hk
                      rcases e with rfl | e
                      · exact heap_ne hk' HI5.out.hy (by decide) rfl
                      · obtain ⟨_, _, _, h⟩ := HI5.out.ry.lt _ e
                        exact heap_ne hk' h (by decide) rfl)
                    have HI6 := Lib.hid inv6
                    obtain ⟨Aq, nq, evq, _, _⟩ := ho6.rd
                    subst evq
                    clear inv6 hp6 hr6 hc6 hv6 HI5 cTy2 ho5
                    have hb6 : Below w6.heap.size w6 ((w6.alloc (.cells #[.int .i64 p.kind, .int .i64 p.n, .string p.text, .slice Ap p.attrs.length np] 30)).alloc (.cells #[.int .i64 q.kind, .int .i64 q.n, .string q.text, .slice Aq q.attrs.length nq] 30)) := ((Below.refl _ _).alloc (Nat.le_refl _) _).alloc (by simp) _
                    by_cases hp3 : p.kind = 3
                    · have hpb : (p.kind == 3) = true := by simp [hp3]
                      have HM := Lib.hid (m1 hp3)
                      have cN := fun W => fSkip w4.heap.size (.agg #[.int .i64 q.kind, .int .i64 q.n, .string q.text, .slice Aq q.attrs.length nq]) W ⟨_, _, _, _, rfl⟩
                      clear m1 m2 m3 hp3
                      go_wp2_with fail
                      with_reducible refine (cN _).mono ?_
                      rintro e w7 ⟨rfl, hb7⟩
                      have inv7 := HI6.out.far (hb6.trans (hb7.mono hb6.size))
                      have HI7 := Lib.hid inv7
                      clear inv7 hb7 HI6 cN
                      go_wp2_with fail
                      go_roundg (k + 1)
                      case measure => omega
                      case rel => exact ⟨_, _, _, _, _, _, _, _, Nat.lt_succ_self _, HI7.out, HM.out⟩
                    · have hpb : (p.kind == 3) = false := by simp [hp3]
                      by_cases hq3 : q.kind = 3
                      · have hqb : (q.kind == 3) = true := by simp [hq3]
                        have HM := Lib.hid (m2 hp3 hq3)
                        have inv6' := HI6.out.far hb6
                        have cN := fRemove w4.heap.size w.heap.size vw s.1 s.2 long q.kind q.n q.text (.slice Aq q.attrs.length nq) _ inv6'.hw inv6'.ow
                        have HI6' := Lib.hid inv6'
                        clear m1 m2 m3 hp3 hq3 inv6' HI6
                        go_wp2_with fail
                        with_reducible refine cN.mono ?_
                        rintro e w7 ⟨rfl, hp7⟩
                        obtain ⟨vw7, inv7⟩ := HI6'.out.write hp7
                        have HI7 := Lib.hid inv7
                        clear inv7 hp7 HI6' cN
                        go_wp2_with fail
                        go_roundg (k + 1)
                        case measure => omega
                        case rel => exact ⟨_, _, _, _, _, _, _, _, Nat.lt_succ_self _, HI7.out, HM.out⟩
                      · have hqb : (q.kind == 3) = false := by simp [hq3]
                        have HM := Lib.hid (m3 hp3 hq3)
                        have cF := follow_attrs (.slice Ap p.attrs.length np) (.slice Aq q.attrs.length nq) p.attrs q.attrs _ _ first _ (ho5'.rd.below hb6) (ho6.rd.below hb6)
                        have hbq := heap_alloc_new (w6.alloc (.cells #[.int .i64 p.kind, .int .i64 p.n, .string p.text, .slice Ap p.attrs.length np] 30)) (.cells #[.int .i64 q.kind, .int .i64 q.n, .string q.text, .slice Aq q.attrs.length nq] 30)
                        have HBQ := Lib.hid hbq
                        have hz6 := HI6.out.size
                        clear m1 m2 m3 hp3 hq3 hbq
                        go_wp2_with fail
                        with_reducible refine cF.mono ?_
                        rintro e w7 ⟨v7, rfl, hb7, ho7⟩
                        have hqq : w7.heap[w6.heap.size + 1]? = some (.cells #[.int .i64 q.kind, .int .i64 q.n, .string q.text, .slice Aq q.attrs.length nq] 30 (0, 0)) := by
                          have := (hb7.block _ (by simp)).trans HBQ.out
                          simpa using this
                        have hb7' : Below w6.heap.size w6 w7 := hb6.trans (hb7.mono hb6.size)
                        have inv8 := HI6.out.far (hb7'.setCell (p := ⟨w6.heap.size + 1, 3, none⟩) (by simp) v7)
                        have ho8 := ho7.setOp (j := 3) (u := v7) hqq
                        have cN := fKeep w4.heap.size w.heap.size vw s.1 s.2 long q.kind q.n q.text v7 (flL p.attrs q.attrs first) (fun k => v7.ownBlock = some k) _ inv8.hw inv8.lw inv8.ow ho8.rdS (inv8.apart ho8) (by unfold Fits; omega) (fun x hx => by have := bd.2 x hx; omega) (by have := bd.1; omega)
                        have q0 : w7.cell? ⟨w6.heap.size + 1, 0, none⟩ = some (.int .i64 q.kind) := cell_of_row _ _ 0 _ _ _ hqq
                        have q1 : w7.cell? ⟨w6.heap.size + 1, 1, none⟩ = some (.int .i64 q.n) := cell_of_row _ _ 1 _ _ _ hqq
                        have q2 : w7.cell? ⟨w6.heap.size + 1, 2, none⟩ = some (.string q.text) := cell_of_row _ _ 2 _ _ _ hqq
                        have q3 : w7.cell? ⟨w6.heap.size + 1, 3, none⟩ = some (.slice Aq q.attrs.length nq) := cell_of_row _ _ 3 _ _ _ hqq
                        have qf : w7.frozen? ⟨w6.heap.size + 1, 3, none⟩ = false := frozen_of_row _ _ 3 _ _ hqq
                        have HI8 := Lib.hid inv8
                        obtain ⟨A7, n7, ev7, _, _⟩ := ho7.rd
                        subst ev7
                        clear inv8 hqq hb7 hb7' HI6 cF ho7 ho8 HBQ hz6
                        go_wp2_with fail
                        with_reducible refine cN.mono ?_
                        rintro e w9 ⟨rfl, hp9⟩
                        obtain ⟨vw9, inv9⟩ := HI8.out.write hp9
                        have HI9 := Lib.hid inv9
                        clear inv9 hp9 HI8 cN
                        go_wp2_with fail
                        go_roundg (k + 1)
                        case measure => omega
                        case rel => exact ⟨_, _, _, _, _, _, _, _, Nat.lt_succ_self _, HI9.out, HM.out⟩
      · have hfb : (fa != fb) = true := by simp [hf]
        obtain rfl : R = (⟨0, []⟩, 31) := by
          rw [← HRR.out]
          unfold folR
          rw [HA.out, HB.out, if_neg (by simp), if_neg (by simp), if_pos hf]
        have j5 : w2.frozen? ⟨w.heap.size + 1 + 1, 0, none⟩ = false := frozen_of_row _ _ 0 _ _ k2
        have j6 : w2.frozen? ⟨w.heap.size + 1 + 1, 1, none⟩ = false := frozen_of_row _ _ 1 _ _ k2
        have j7 : w2.cell? ⟨w.heap.size + 1 + 1, 0, none⟩ = some (.int .i64 0) := cell_of_row _ _ 0 _ _ _ k2
        have j8 : w2.cell? ⟨w.heap.size + 1 + 1, 1, none⟩ = some (.slice none 0 0) := cell_of_row _ _ 1 _ _ _ k2
        clear k0 k1 k2 hf
        go_wp2_with fail
        exact fol_end hbw2 HE.out _ _ _ (RowO.nil _ _) rfl rfl rfl
    · have heb2 : (eb != 0) = true := by simp [heb]
      obtain rfl : R = (⟨0, []⟩, eb) := by
        rw [← HRR.out]
        unfold folR
        rw [HA.out, HB.out, if_neg (by simp), if_pos heb]
      have j5 : w2.frozen? ⟨w.heap.size + 1 + 1, 0, none⟩ = false := frozen_of_row _ _ 0 _ _ k2
      have j6 : w2.frozen? ⟨w.heap.size + 1 + 1, 1, none⟩ = false := frozen_of_row _ _ 1 _ _ k2
      have j7 : w2.cell? ⟨w.heap.size + 1 + 1, 0, none⟩ = some (.int .i64 0) := cell_of_row _ _ 0 _ _ _ k2
      have j8 : w2.cell? ⟨w.heap.size + 1 + 1, 1, none⟩ = some (.slice none 0 0) := cell_of_row _ _ 1 _ _ _ k2
      have HE := Lib.hid k2
      clear k0 k1 k2 heb
      go_wp2_with fail
      exact fol_end hbw2 HE.out _ _ _ (RowO.nil _ _) rfl rfl rfl
  · have hea2 : (ea != 0) = true := by simp [hea]
    obtain rfl : R = (⟨0, []⟩, ea) := by
      rw [← HRR.out]
      unfold folR
      rw [HA.out, if_pos hea]
    have j5 : w1.frozen? ⟨w.heap.size + 1 + 1, 0, none⟩ = false := frozen_of_row _ _ 0 _ _ k2
    have j6 : w1.frozen? ⟨w.heap.size + 1 + 1, 1, none⟩ = false := frozen_of_row _ _ 1 _ _ k2
    have j7 : w1.cell? ⟨w.heap.size + 1 + 1, 0, none⟩ = some (.int .i64 0) := cell_of_row _ _ 0 _ _ _ k2
    have j8 : w1.cell? ⟨w.heap.size + 1 + 1, 1, none⟩ = some (.slice none 0 0) := cell_of_row _ _ 1 _ _ _ k2
    clear k0 k1 k2 hea
    go_wp2_with fail
    exact fol_end hbw1 HK2.out _ _ _ (RowO.nil _ _) rfl rfl rfl
end Go.Proofs.YtaemajcpgmaapaaDoor

namespace Go.Proofs.YtaemajcpgmaapaaDoor
open Go.RowKit

theorem put_law (s : ByteArray) (va : Value) (w : World) (hva : ∃ A n c, va = .slice A n c) :
    Calls Tryd.prog 71 #[.string s, va] w fun e w' => e = .returned (.agg #[.int .i64 2, .int .i64 0, .string s, va]) ∧ Below w.heap.size w w' := by
  obtain ⟨A, n, c, rfl⟩ := hva
  go_enter Tryd.func71, Tryd.ntmps71
  go_wp2_with fail
  exact bodyPost_ret (v := .agg #[.int .i64 2, .int .i64 0, .string s, .slice A n c]) (by simp [results, Tryd.results71, go_sem]) rfl ⟨rfl, (Below.refl _ _).alloc (Nat.le_refl _) _⟩
/-- One operation without attributes, in a block of its own. -/
theorem rd_one {w : World} {B : Nat} {k n : Int} {t : ByteArray} {fr : Nat × Nat} (h : w.heap[B]? = some (.cells #[.int .i64 k, .int .i64 n, .string t, .slice none 0 0] 30 fr)) (ht : Fits t) :
    Rd KO (fun _ => True) w (.slice (some ⟨B, 0, none⟩) 1 1) [⟨k, n, t, []⟩] := by
  refine ⟨_, 1, rfl, ⟨by simp, by simp⟩, by simp [KO], fun j hj => ?_⟩
  obtain rfl : j = 0 := by simpa using hj
  refine ⟨B, 0, _, rfl, trivial, (Array.getElem?_eq_some_iff.1 h).1, ⟨.slice none 0 0, rfl, Rd.nil _ _ _ _ _ (by simp), ht⟩, fun i x hx => ?_⟩
  rw [cell_of_row w B _ _ _ _ h]
  match i, hx with
  | 0, hx => simpa using hx
  | 1, hx => simpa using hx
  | 2, hx => simpa using hx
  | 3, hx => simpa using hx
  | i + 4, hx => simp at hx
theorem aw1 : folR false ⟨3, [⟨2, 0, ⟨#[120]⟩, []⟩]⟩ ⟨3, [⟨2, 0, ⟨#[121]⟩, []⟩]⟩ = (⟨4, [⟨1, 1, ⟨#[]⟩, []⟩, ⟨2, 0, ⟨#[121]⟩, []⟩]⟩, 0) := by kernel_rfl
theorem aw2 : folR true ⟨3, [⟨2, 0, ⟨#[120]⟩, []⟩]⟩ ⟨3, [⟨2, 0, ⟨#[121]⟩, []⟩]⟩ = (⟨4, [⟨2, 0, ⟨#[121]⟩, []⟩]⟩, 0) := by kernel_rfl
theorem aw3 : folR true ⟨3, [⟨2, 0, ⟨#[120]⟩, []⟩]⟩ ⟨2, []⟩ = (⟨0, []⟩, 31) := by kernel_rfl

/-- What the examples hold: two changesets of one operation each. -/
structure AwF (w W : World) (oa ba ob bb : Nat) : Prop where
  below : Below w.heap.size w W
  a : W.heap[oa]? = some (.cells #[.int .i64 2, .int .i64 0, .string ⟨#[120]⟩, .slice none 0 0] 30 (0, 0))
  ca : W.heap[ba]? = some (.cells #[.int .i64 3, .slice (some ⟨oa, 0, none⟩) 1 1] 24 (0, 0))
  b : W.heap[ob]? = some (.cells #[.int .i64 2, .int .i64 0, .string ⟨#[121]⟩, .slice none 0 0] 30 (0, 0))
  cb : W.heap[bb]? = some (.cells #[.int .i64 3, .slice (some ⟨ob, 0, none⟩) 1 1] 24 (0, 0))
theorem AwF.next {w W W' : World} {oa ba ob bb : Nat} (h : AwF w W oa ba ob bb) (hb : Below W.heap.size W W') : AwF w W' oa ba ob bb :=
  ⟨h.below.trans (hb.mono h.below.size), (hb.block _ (Array.getElem?_eq_some_iff.1 h.a).1).trans h.a, (hb.block _ (Array.getElem?_eq_some_iff.1 h.ca).1).trans h.ca, (hb.block _ (Array.getElem?_eq_some_iff.1 h.b).1).trans h.b, (hb.block _ (Array.getElem?_eq_some_iff.1 h.cb).1).trans h.cb⟩

set_option maxRecDepth 100000 in
set_option maxHeartbeats 2000000 in
theorem awake7 (w : World) (hT : Tabs w) : Calls Tryd.prog 24 #[] w fun e w' => e = .returned (.bool true) ∧ Below w.heap.size w w' := by
  have cP := fun s W => put_law s (.slice none 0 0) W ⟨_, _, _, rfl⟩
  have A1 := Lib.hid aw1
  have A2 := Lib.hid aw2
  have A3 := Lib.hid aw3
  go_enter Tryd.func24, Tryd.ntmps24
  go_wp2_with fail
  with_reducible refine (cP _ _).mono ?_
  rintro e w1 ⟨rfl, hb1⟩
  go_wp2_with fail
  with_reducible refine (cP _ _).mono ?_
  rintro e w2 ⟨rfl, hb2⟩
  have g0 : w2.heap[w1.heap.size]? = some (.cells #[.int .i64 2, .int .i64 0, .string ⟨#[120]⟩, .slice none 0 0] 30 (0, 0)) := (hb2.block _ (by simp; omega)).trans ((Below.heap_alloc _ _ _ (by simp)).trans (heap_alloc_new w1 _))
  have g1 : w2.heap[w1.heap.size + 1]? = some (.cells #[.int .i64 3, .slice (some ⟨w1.heap.size, 0, none⟩) 1 1] 24 (0, 0)) :=
    (hb2.block _ (by simp)).trans (by simpa using heap_alloc_new (w1.alloc (.cells #[.int .i64 2, .int .i64 0, .string ⟨#[120]⟩, .slice none 0 0] 30)) (.cells #[.int .i64 3, .slice (some ⟨w1.heap.size, 0, none⟩) 1 1] 24))
  have hz2 : w1.heap.size + 2 ≤ w2.heap.size := by have := hb2.size; simp at this; omega
  have hbw : Below w.heap.size w w2 := by
    refine hb1.trans ((((Below.refl _ w1).alloc hb1.size _).alloc (by have := hb1.size; simp; omega) _).trans (hb2.mono (by have := hb1.size; simp; omega)))
  have F0 : AwF w ((w2.alloc (.cells #[.int .i64 2, .int .i64 0, .string ⟨#[121]⟩, .slice none 0 0] 30)).alloc (.cells #[.int .i64 3, .slice (some ⟨w2.heap.size, 0, none⟩) 1 1] 24)) w1.heap.size (w1.heap.size + 1) w2.heap.size (w2.heap.size + 1) :=
    ⟨(hbw.alloc hbw.size _).alloc (by have := hbw.size; simp; omega) _, (Below.heap_alloc _ _ _ (by simp; omega)).trans ((Below.heap_alloc _ _ _ (by omega)).trans g0), (Below.heap_alloc _ _ _ (by simp; omega)).trans ((Below.heap_alloc _ _ _ (by omega)).trans g1),
      (Below.heap_alloc _ _ _ (by simp)).trans (heap_alloc_new w2 _), by simpa using heap_alloc_new (w2.alloc (.cells #[.int .i64 2, .int .i64 0, .string ⟨#[121]⟩, .slice none 0 0] 30)) (.cells #[.int .i64 3, .slice (some ⟨w2.heap.size, 0, none⟩) 1 1] 24)⟩
  have q0 : w2.cell? ⟨w1.heap.size + 1, 0, none⟩ = some (.int .i64 3) := cell_of_row _ _ 0 _ _ _ g1
  have q1 : w2.cell? ⟨w1.heap.size + 1, 1, none⟩ = some (.slice (some ⟨w1.heap.size, 0, none⟩) 1 1) := cell_of_row _ _ 1 _ _ _ g1
  have ne1 : w1.heap.size + 1 ≠ w2.heap.size := by omega
  have ne2 : w1.heap.size ≠ w2.heap.size := by omega
  have HF0 := Lib.hid F0
  have f0 : ∀ o o', ((w2.alloc o).alloc o').cell? ⟨w1.heap.size + 1, 0, none⟩ = some (.int .i64 3) := fun o o' => (World.cell?_of_block (Below.heap_alloc _ o' _ (by show w1.heap.size + 1 < _; simp; omega))).trans ((World.cell?_of_block (Below.heap_alloc w2 o _ (by show w1.heap.size + 1 < _; omega))).trans q0)
  have f1 : ∀ o o', ((w2.alloc o).alloc o').cell? ⟨w1.heap.size + 1, 1, none⟩ = some (.slice (some ⟨w1.heap.size, 0, none⟩) 1 1) := fun o o' => (World.cell?_of_block (Below.heap_alloc _ o' _ (by show w1.heap.size + 1 < _; simp; omega))).trans ((World.cell?_of_block (Below.heap_alloc w2 o _ (by show w1.heap.size + 1 < _; omega))).trans q1)
  have cA := fun (first : Bool) (W : World) (F : AwF w W w1.heap.size (w1.heap.size + 1) w2.heap.size (w2.heap.size + 1)) => follow_any 3 3 (.slice (some ⟨w1.heap.size, 0, none⟩) 1 1) (.slice (some ⟨w2.heap.size, 0, none⟩) 1 1) [⟨2, 0, ⟨#[120]⟩, []⟩] [⟨2, 0, ⟨#[121]⟩, []⟩] _ _ first W (rd_one F.a (show (1 : Nat) ≤ _ by omega)) (rd_one F.b (show (1 : Nat) ≤ _ by omega)) (hT.below F.below)
  have cB := fun (W : World) (F : AwF w W w1.heap.size (w1.heap.size + 1) w2.heap.size (w2.heap.size + 1)) => follow_any 3 2 (.slice (some ⟨w1.heap.size, 0, none⟩) 1 1) (.slice none 0 0) [⟨2, 0, ⟨#[120]⟩, []⟩] [] _ (fun _ => True) true W (rd_one F.a (show (1 : Nat) ≤ _ by omega)) (Rd.nil _ _ _ _ _ (by simp)) (hT.below F.below)
  rw [A3.out] at cB
  have cA1 := cA false
  have cA2 := cA true
  rw [A1.out] at cA1
  rw [A2.out] at cA2
  have HC1 := Lib.hid (cA1 _ F0)
  clear hb1 hb2 g0 g1 hz2 hbw F0 cP A1 A2 A3 cA cA1
  go_wp2_with fail
  with_reducible refine HC1.out.mono ?_
  rintro e w3 ⟨v3, rfl, hb3, hr3⟩
  have F3 := HF0.out.next hb3
  clear HC1 HF0
  obtain ⟨A3, c3, rfl, hA3, hs3⟩ := hr3.rd
  obtain ⟨b3, o3, va3, rfl, _, hb3w, _, _, hy3, _, _, _⟩ := hs3.op 1 (by simp)
  simp only [List.length_cons, List.length_nil, Nat.zero_add, Nat.reduceAdd, List.getElem_cons_succ, List.getElem_cons_zero, Nat.one_mul] at hy3 hr3
  dsimp only
  have hcc := heap_alloc_new w3 (.cells #[.int .i64 4, .slice (some ⟨b3, o3, none⟩) 2 c3] 24)
  have hbc : Below w3.heap.size w3 (w3.alloc (.cells #[.int .i64 4, .slice (some ⟨b3, o3, none⟩) 2 c3] 24)) := (Below.refl _ _).alloc (Nat.le_refl _) _
  have F4 := F3.next hbc
  have f2 : ∀ o, (w3.alloc o).cell? ⟨w1.heap.size + 1, 0, none⟩ = some (.int .i64 3) := fun o => (World.cell?_of_block (Below.heap_alloc w3 o _ (Array.getElem?_eq_some_iff.1 F3.ca).1)).trans (cell_of_row _ _ 0 _ _ _ F3.ca)
  have f3 : ∀ o, (w3.alloc o).cell? ⟨w1.heap.size + 1, 1, none⟩ = some (.slice (some ⟨w1.heap.size, 0, none⟩) 1 1) := fun o => (World.cell?_of_block (Below.heap_alloc w3 o _ (Array.getElem?_eq_some_iff.1 F3.ca).1)).trans (cell_of_row _ _ 1 _ _ _ F3.ca)
  have f4 : ∀ o, (w3.alloc o).cell? ⟨w2.heap.size + 1, 0, none⟩ = some (.int .i64 3) := fun o => (World.cell?_of_block (Below.heap_alloc w3 o _ (Array.getElem?_eq_some_iff.1 F3.cb).1)).trans (cell_of_row _ _ 0 _ _ _ F3.cb)
  have f5 : ∀ o, (w3.alloc o).cell? ⟨w2.heap.size + 1, 1, none⟩ = some (.slice (some ⟨w2.heap.size, 0, none⟩) 1 1) := fun o => (World.cell?_of_block (Below.heap_alloc w3 o _ (Array.getElem?_eq_some_iff.1 F3.cb).1)).trans (cell_of_row _ _ 1 _ _ _ F3.cb)
  have HC2 := Lib.hid (cA2 _ F4)
  have HF4 := Lib.hid F4
  have HCC := Lib.hid hcc
  clear cA2 F3 F4 f0 f1 q0 q1 hcc hA3 hs3
  go_wp2_with fail
  with_reducible refine HC2.out.mono ?_
  rintro e w5 ⟨v5, rfl, hb5, hr5⟩
  have F5 := HF4.out.next hb5
  have hcc5 := (hb5.block _ (by simp)).trans HCC.out
  have hy5 := ((hbc.trans (hb5.mono hbc.size)).cell (p := ⟨b3, o3 + 4 + 2, none⟩) hb3w).trans hy3
  obtain ⟨A5, c5, rfl, hA5, hs5⟩ := hr5.rd
  simp only at hs5
  dsimp only
  have hdd := heap_alloc_new w5 (.cells #[.int .i64 4, .slice A5 1 c5] 24)
  have hbd : Below w5.heap.size w5 (w5.alloc (.cells #[.int .i64 4, .slice A5 1 c5] 24)) := (Below.refl _ _).alloc (Nat.le_refl _) _
  have F6 := F5.next hbd
  have f6 : ∀ o, (w5.alloc o).cell? ⟨w1.heap.size + 1, 0, none⟩ = some (.int .i64 3) := fun o => (World.cell?_of_block (Below.heap_alloc w5 o _ (Array.getElem?_eq_some_iff.1 F5.ca).1)).trans (cell_of_row _ _ 0 _ _ _ F5.ca)
  have f7 : ∀ o, (w5.alloc o).cell? ⟨w1.heap.size + 1, 1, none⟩ = some (.slice (some ⟨w1.heap.size, 0, none⟩) 1 1) := fun o => (World.cell?_of_block (Below.heap_alloc w5 o _ (Array.getElem?_eq_some_iff.1 F5.ca).1)).trans (cell_of_row _ _ 1 _ _ _ F5.ca)
  have HC3 := Lib.hid (cB _ F6)
  have HF6 := Lib.hid F6
  have HDD := Lib.hid hdd
  have HCC5 := Lib.hid hcc5
  have HY5 := Lib.hid hy5
  have hz35 : w3.heap.size < w5.heap.size := (Array.getElem?_eq_some_iff.1 hcc5).1
  have hzb5 : b3 < w5.heap.size := World.block_lt_of_cell? _ _ hy5
  clear F5 F6 f2 f3 f4 f5 hdd hcc5 hy5 hy3 HC2 HF4 HCC hA5 hs5 cB
  go_wp2_with fail
  with_reducible refine HC3.out.mono ?_
  rintro e w7 ⟨v7, rfl, hb7, hr7⟩
  obtain ⟨A7, c7, rfl, hA7, hs7⟩ := hr7.rd
  simp only at hs7
  dsimp only
  have hB57 : Below w5.heap.size w5 w7 := hbd.trans (hb7.mono hbd.size)
  have hc7 := (hB57.block _ hz35).trans HCC5.out
  have hd7 := (hb7.block _ (by simp)).trans HDD.out
  have hy7 := (hB57.cell (p := ⟨b3, o3 + 4 + 2, none⟩) hzb5).trans HY5.out
  have s1 := (Array.getElem?_eq_some_iff.1 hc7).1
  have s2 := (Array.getElem?_eq_some_iff.1 hd7).1
  have s3 : b3 < w7.heap.size := World.block_lt_of_cell? _ _ hy7
  have j0 : ∀ o, (w7.alloc o).cell? ⟨w3.heap.size, 0, none⟩ = some (.int .i64 4) := fun o => (World.cell?_of_block (Below.heap_alloc w7 o _ s1)).trans (cell_of_row _ _ 0 _ _ _ hc7)
  have j1 : ∀ o, (w7.alloc o).cell? ⟨w3.heap.size, 1, none⟩ = some (.slice (some ⟨b3, o3, none⟩) 2 c3) := fun o => (World.cell?_of_block (Below.heap_alloc w7 o _ s1)).trans (cell_of_row _ _ 1 _ _ _ hc7)
  have j2 : ∀ o, (w7.alloc o).cell? ⟨w5.heap.size, 1, none⟩ = some (.slice A5 1 c5) := fun o => (World.cell?_of_block (Below.heap_alloc w7 o _ s2)).trans (cell_of_row _ _ 1 _ _ _ hd7)
  have j3 : ∀ o, (w7.alloc o).cell? ⟨b3, o3 + 4 + 2, none⟩ = some (.string ⟨#[121]⟩) := fun o => (World.cell?_of_block (Below.heap_alloc w7 o _ s3)).trans hy7
  have hbf : Below w.heap.size w w7 := HF6.out.below.trans (hb7.mono HF6.out.below.size)
  have HBF := Lib.hid hbf
  clear hc7 hd7 hy7 s1 s2 s3 hB57 hb7 hr7 hs7 hA7 HC3 HF6 HDD HCC5 HY5 f6 f7 hbf
  go_wp2_with fail
  go_ret
  exact ⟨rfl, HBF.out.alloc HBF.out.size _⟩
end Go.Proofs.YtaemajcpgmaapaaDoor

namespace Go.Proofs.YtaemajcpgmaapaaDoor
open Go.RowKit

theorem opsEq_self : ∀ l, opsEq l l = true
  | [] => rfl
  | o :: l => by simp [opsEq, opEq, attrsEq, opsEq_self l]
theorem chEq_self (c : Change) : chEq c c = true := by simp [chEq, opsEq_self]
theorem chEq_of {a b : Change} (h : a = b) : chEq a b = true := h ▸ chEq_self a
/-- What follows is in its normal form. -/
theorem fol_is {first : Bool} {a b : Change} (h : (folR first a b).2 = 0) : chIs (folR first a b).1 = true := by
  obtain ⟨r, _, hn, _⟩ := fol_fits h
  have e : nmR (folR first a b).1 = ((folR first a b).1, 0) := by
    unfold nmR
    rw [if_pos (toR_iff.2 r), hn]
  unfold chIs
  rw [e, chEq_self]
  rfl
theorem to_of {c : Change} {R : Int × Int} (h : toR c = R) (h2 : R.2 = 0) : toR c = (R.1, 0) := by rw [h, ← h2]

/-- A changeset in a box of its own: it stays where nothing below was turned. -/
structure BoxC (w : World) (B : Nat) (c : Change) (v : Value) (S : Nat → Prop) : Prop where
  box : w.heap[B]? = some (.cells #[.int .i64 c.from_, v] 24 (0, 0))
  rd : Rd KO S w v c.ops
theorem BoxC.lt {w : World} {B : Nat} {c : Change} {v : Value} {S : Nat → Prop} (h : BoxC w B c v S) : B < w.heap.size := (Array.getElem?_eq_some_iff.1 h.box).1
theorem BoxC.next {w w' : World} {B : Nat} {c : Change} {v : Value} {S : Nat → Prop} (h : BoxC w B c v S) (hb : Below w.heap.size w w') : BoxC w' B c v S :=
  ⟨(hb.block _ h.lt).trans h.box, h.rd.below hb⟩
theorem BoxC.c0 {w : World} {B : Nat} {c : Change} {v : Value} {S : Nat → Prop} (h : BoxC w B c v S) : w.cell? ⟨B, 0, none⟩ = some (.int .i64 c.from_) := cell_of_row _ _ 0 _ _ _ h.box
theorem BoxC.c1 {w : World} {B : Nat} {c : Change} {v : Value} {S : Nat → Prop} (h : BoxC w B c v S) : w.cell? ⟨B, 1, none⟩ = some v := cell_of_row _ _ 1 _ _ _ h.box
theorem BoxC.new {w : World} {c : Change} {v : Value} {S : Nat → Prop} (h : Rd KO S w v c.ops) : BoxC (w.alloc (.cells #[.int .i64 c.from_, v] 24)) w.heap.size c v S :=
  ⟨heap_alloc_new w _, h.below ((Below.refl _ _).alloc (Nat.le_refl _) _)⟩
theorem BoxC.alloc {w : World} {B : Nat} {c : Change} {v : Value} {S : Nat → Prop} (h : BoxC w B c v S) (o : Obj) : BoxC (w.alloc o) B c v S := h.next ((Below.refl _ _).alloc (Nat.le_refl _) o)

set_option maxRecDepth 100000 in
set_option maxHeartbeats 4000000 in
theorem long_any (fa : Int) (va : Value) (la : List Op) (S1 : Nat → Prop) (fb : Int) (vb : Value) (lb : List Op) (S2 : Nat → Prop) (first : Bool) (w : World) (ha : Rd KO S1 w va la) (hb : Rd KO S2 w vb lb) (hT : Tabs w) :
    Calls Tryd.prog 5 #[.agg #[.int .i64 fa, va], .agg #[.int .i64 fb, vb], .bool first] w fun e w' => e = .returned (.bool true) ∧ Below w.heap.size w w' := by
  have hba : Below w.heap.size w ((w.alloc (.cells #[.int .i64 fa, va] 24)).alloc (.cells #[.int .i64 fb, vb] 24)) := ((Below.refl _ _).alloc (Nat.le_refl _) _).alloc (by simp) _
  have B1 : BoxC ((w.alloc (.cells #[.int .i64 fa, va] 24)).alloc (.cells #[.int .i64 fb, vb] 24)) w.heap.size ⟨fa, la⟩ va S1 := (BoxC.new (c := ⟨fa, la⟩) ha).alloc _
  have B2 : BoxC ((w.alloc (.cells #[.int .i64 fa, va] 24)).alloc (.cells #[.int .i64 fb, vb] 24)) (w.heap.size + 1) ⟨fb, lb⟩ vb S2 := by
    have := BoxC.new (w := w.alloc (.cells #[.int .i64 fa, va] 24)) (c := ⟨fb, lb⟩) (hb.below ((Below.refl _ _).alloc (Nat.le_refl _) _))
    simpa using this
  have cw := awake7 _ (hT.below hba)
  have cF1 := fun W h1 h2 h3 => follow_any fa fb va vb la lb S1 S2 first W h1 h2 h3
  have cF2 := fun W h1 h2 h3 => follow_any fb fa vb va lb la S2 S1 (!first) W h1 h2 h3
  have P0 : Hid ((folR first ⟨fa, la⟩ ⟨fb, lb⟩).2 = 0 → (folR (!first) ⟨fb, lb⟩ ⟨fa, la⟩).2 = 0 →
      ∃ n m k, toR ⟨fa, la⟩ = (n, 0) ∧ toR ⟨fb, lb⟩ = (m, 0) ∧ toR (folR first ⟨fa, la⟩ ⟨fb, lb⟩).1 = (k, 0) ∧ toR (folR (!first) ⟨fb, lb⟩ ⟨fa, la⟩).1 = (k, 0) ∧ (folR first ⟨fa, la⟩ ⟨fb, lb⟩).1.from_ = n ∧ (folR (!first) ⟨fb, lb⟩ ⟨fa, la⟩).1.from_ = m ∧
        chIs (folR first ⟨fa, la⟩ ⟨fb, lb⟩).1 = true ∧ chIs (folR (!first) ⟨fb, lb⟩ ⟨fa, la⟩).1 = true) := by
    intro h1 h2
    obtain ⟨ra, rb, _, _⟩ := folR_ok h1
    obtain ⟨_, f1, _, _⟩ := fol_fits h1
    obtain ⟨_, f2, _, _⟩ := fol_fits h2
    obtain ⟨z1, z2, z3⟩ := fol_long h1 h2
    exact ⟨_, _, _, to_of rfl (toR_iff.2 ra), to_of rfl (toR_iff.2 rb), to_of rfl z1, (to_of rfl z2).trans (by rw [z3]), f1, f2, fol_is h1, fol_is h2⟩
  change ∀ W, _ → _ → _ → Calls _ _ _ _ (ChQ _ (folR first ⟨fa, la⟩ ⟨fb, lb⟩)) at cF1
  change ∀ W, _ → _ → _ → Calls _ _ _ _ (ChQ _ (folR (!first) ⟨fb, lb⟩ ⟨fa, la⟩)) at cF2
  generalize folR first ⟨fa, la⟩ ⟨fb, lb⟩ = X at *
  generalize folR (!first) ⟨fb, lb⟩ ⟨fa, la⟩ = Y at *
  obtain ⟨⟨xf, xo⟩, xe⟩ := X
  obtain ⟨⟨yf, yo⟩, ye⟩ := Y
  dsimp only at P0
  obtain ⟨A1, c1, rfl, hA1, hr1⟩ := ha
  obtain ⟨A2, c2, rfl, hA2, hr2⟩ := hb
  have HB1 := Lib.hid B1
  have HB2 := Lib.hid B2
  have HBA := Lib.hid hba
  clear B1 B2 hba hr1 hr2
  go_enter Tryd.func5, Tryd.ntmps5
  go_wp2_with fail
  with_reducible refine cw.mono ?_
  rintro e w1 ⟨rfl, hb1⟩
  have hbw1 : Below w.heap.size w w1 := HBA.out.trans (hb1.mono HBA.out.size)
  have B1 := HB1.out.next hb1
  have B2 := HB2.out.next hb1
  have a0 := B1.c0
  have a1 := B1.c1
  have a2 := B2.c0
  have a3 := B2.c1
  dsimp only at a0 a1 a2 a3
  have kF1 := cF1 w1 B1.rd B2.rd (hT.below hbw1)
  have HB1 := Lib.hid B1
  have HB2 := Lib.hid B2
  clear cw hb1 B1 B2
  go_wp2_with fail
  with_reducible refine kF1.mono ?_
  rintro e w2 ⟨v3, rfl, hb2, hr3⟩
  have hbw2 : Below w.heap.size w w2 := hbw1.trans (hb2.mono hbw1.size)
  obtain ⟨S3, hrd3⟩ : ∃ S3, Rd KO S3 w2 v3 xo := ⟨_, hr3.rd⟩
  obtain ⟨A3, c3, rfl, hA3, hs3⟩ := hr3.rd
  dsimp only
  clear a0 a1 a2 a3 kF1
  have B1 := (HB1.out.next hb2).alloc (.cells #[.int .i64 xf, .slice A3 xo.length c3] 24)
  have B2 := (HB2.out.next hb2).alloc (.cells #[.int .i64 xf, .slice A3 xo.length c3] 24)
  have B3 := BoxC.new (c := ⟨xf, xo⟩) hrd3
  have hbw2' : Below w.heap.size w (w2.alloc (.cells #[.int .i64 xf, .slice A3 xo.length c3] 24)) := hbw2.alloc hbw2.size _
  have a0 := B1.c0
  have a1 := B1.c1
  have a2 := B2.c0
  have a3 := B2.c1
  dsimp only at a0 a1 a2 a3
  have kF2 := cF2 _ B2.rd B1.rd (hT.below hbw2')
  have HB1 := Lib.hid B1
  have HB2 := Lib.hid B2
  have HB3 := Lib.hid B3
  clear B1 B2 B3 hb2 hs3 hr3
  go_wp2_with fail
  with_reducible refine kF2.mono ?_
  rintro e w3 ⟨v4, rfl, hb3, hr4⟩
  have hbw3 : Below w.heap.size w w3 := hbw2'.trans (hb3.mono hbw2'.size)
  obtain ⟨S4, hrd4⟩ : ∃ S4, Rd KO S4 w3 v4 yo := ⟨_, hr4.rd⟩
  obtain ⟨A4, c4, rfl, hA4, hs4⟩ := hr4.rd
  dsimp only
  clear a0 a1 a2 a3 kF2
  have B1 := (HB1.out.next hb3).alloc (.cells #[.int .i64 yf, .slice A4 yo.length c4] 24)
  have B2 := (HB2.out.next hb3).alloc (.cells #[.int .i64 yf, .slice A4 yo.length c4] 24)
  have B3 := (HB3.out.next hb3).alloc (.cells #[.int .i64 yf, .slice A4 yo.length c4] 24)
  have B4 := BoxC.new (c := ⟨yf, yo⟩) hrd4
  have hbw3' : Below w.heap.size w (w3.alloc (.cells #[.int .i64 yf, .slice A4 yo.length c4] 24)) := hbw3.alloc hbw3.size _
  clear hb3 hs4 hr4
  by_cases he : xe = 0
  · subst he
    by_cases hf : ye = 0
    · subst hf
      obtain ⟨n, m, k, t1, t2, t3, t4, rfl, rfl, i1, i2⟩ := P0.out rfl rfl
      have d1 := fun W h1 h2 => to_any fa (.slice A1 la.length c1) la S1 W h1 h2
      have d2 := fun W h1 h2 => to_any fb (.slice A2 lb.length c2) lb S2 W h1 h2
      have d3 := fun W h1 h2 => to_any xf (.slice A3 xo.length c3) xo S3 W h1 h2
      have d4 := fun W h1 h2 => to_any yf (.slice A4 yo.length c4) yo S4 W h1 h2
      have i3 := fun W h1 h2 => is_ch xf (.slice A3 xo.length c3) xo S3 W h1 h2
      have i4 := fun W h1 h2 => is_ch yf (.slice A4 yo.length c4) yo S4 W h1 h2
      rw [t1] at d1
      rw [t2] at d2
      rw [t3] at d3
      rw [t4] at d4
      rw [i1] at i3
      rw [i2] at i4
      have a0 := B1.c0
      have a1 := B1.c1
      dsimp only at a0 a1
      have k1 := d1 _ B1.rd (hT.below hbw3')
      have HB2 := Lib.hid B2
      have HB3 := Lib.hid B3
      have HB4 := Lib.hid B4
      clear B1 B2 B3 B4 hrd3 hrd4 t1 t2 t3 t4 i1 i2 d1 P0 HB1
      go_wp2_with fail
      with_reducible refine k1.mono ?_
      rintro e w4 ⟨rfl, hb4⟩
      unfold R2
      dsimp only
      have hbw4 : Below w.heap.size w w4 := hbw3'.trans (hb4.mono hbw3'.size)
      have B2 := HB2.out.next hb4
      have B3 := HB3.out.next hb4
      have B4 := HB4.out.next hb4
      have b0 := B2.c0
      have b1 := B2.c1
      dsimp only at b0 b1
      have k2 := d2 _ B2.rd (hT.below hbw4)
      have HC3 := Lib.hid B3
      have HC4 := Lib.hid B4
      clear B2 B3 B4 HB2 HB3 HB4 hb4 a0 a1 k1 d2
      go_wp2_with fail
      with_reducible refine k2.mono ?_
      rintro e w5 ⟨rfl, hb5⟩
      unfold R2
      dsimp only
      have hbw5 : Below w.heap.size w w5 := hbw4.trans (hb5.mono hbw4.size)
      have B3 := HC3.out.next hb5
      have B4 := HC4.out.next hb5
      have b2 := B3.c0
      have b3 := B3.c1
      dsimp only at b2 b3
      have k3 := d3 _ B3.rd (hT.below hbw5)
      have HD3 := Lib.hid B3
      have HD4 := Lib.hid B4
      clear B3 B4 HC3 HC4 hb5 b0 b1 k2 d3
      go_wp2_with fail
      with_reducible refine k3.mono ?_
      rintro e w6 ⟨rfl, hb6⟩
      unfold R2
      dsimp only
      have hbw6 : Below w.heap.size w w6 := hbw5.trans (hb6.mono hbw5.size)
      have B3 := HD3.out.next hb6
      have B4 := HD4.out.next hb6
      have b4 := B4.c0
      have b5 := B4.c1
      dsimp only at b4 b5
      have k4 := d4 _ B4.rd (hT.below hbw6)
      have HE3 := Lib.hid B3
      have HE4 := Lib.hid B4
      clear B3 B4 HD3 HD4 hb6 b2 b3 k3 d4
      go_wp2_with fail
      with_reducible refine k4.mono ?_
      rintro e w7 ⟨rfl, hb7⟩
      unfold R2
      dsimp only
      have hbw7 : Below w.heap.size w w7 := hbw6.trans (hb7.mono hbw6.size)
      have B3 := HE3.out.next hb7
      have B4 := HE4.out.next hb7
      have e0 := B3.c0
      have e1 := B3.c1
      have e2 := B4.c0
      have e3 := B4.c1
      dsimp only at e0 e1 e2 e3
      have k5 := i3 _ B3.rd (hT.below hbw7)
      have HF4 := Lib.hid B4
      clear B3 B4 HE3 HE4 hb7 b4 b5 k4 i3
      go_wp2_with fail
      with_reducible refine k5.mono ?_
      rintro e w8 ⟨rfl, hb8⟩
      have hbw8 : Below w.heap.size w w8 := hbw7.trans (hb8.mono hbw7.size)
      have B4 := HF4.out.next hb8
      have f2 := B4.c0
      have f3 := B4.c1
      dsimp only at f2 f3
      have k6 := i4 _ B4.rd (hT.below hbw8)
      clear B4 HF4 hb8 e0 e1 e2 e3 k5 i4
      go_wp2_with fail
      with_reducible refine k6.mono ?_
      rintro e w9 ⟨rfl, hb9⟩
      go_wp2_with fail
      go_ret
      exact ⟨rfl, hbw8.trans (hb9.mono hbw8.size)⟩
    · have hfb : (ye != 0) = true := by simp [hf]
      have HF := Lib.hid hf
      clear hf P0
      go_wp2_with fail
      go_ret
      exact ⟨rfl, hbw3'⟩
  · have heb : (xe != 0) = true := by simp [he]
    have HE := Lib.hid he
    clear he P0
    go_wp2_with fail
    go_ret
    exact ⟨rfl, hbw3'⟩
end Go.Proofs.YtaemajcpgmaapaaDoor
