/- The walk: compose.Compose. | blotterlaw03.Keep, Cut; rows of operations laid by a literal; blotterlaw06.awake. -/
import Derived.Test.YtaemajcpgmaapaaDoorPkL
import Derived.Test.YtaemajcpgmaapaaDoorPkJ
namespace Go.Proofs.YtaemajcpgmaapaaDoor
open Go.RowKit

set_option maxRecDepth 100000 in
set_option maxHeartbeats 4000000 in
theorem compose_any (fa fb : Int) (va vb : Value) (la lb : List Op) (S1 S2 : Nat → Prop) (w : World) (ha : Rd KO S1 w va la) (hb : Rd KO S2 w vb lb) (hT : Tabs w) :
    Calls Tryd.prog 54 #[.agg #[.int .i64 fa, va], .agg #[.int .i64 fb, vb]] w (ChQ w (cmpR ⟨fa, la⟩ ⟨fb, lb⟩)) := by
  have ct := to_any fa va la S1
  have cr := right_ch fb vb lb S2
  obtain ⟨A1, c1, rfl, hA1, hr1⟩ := ha
  obtain ⟨A2, c2, rfl, hA2, hr2⟩ := hb
  have hb0 : Below w.heap.size w (((w.alloc (.cells #[.int .i64 fa, .slice A1 la.length c1] 24)).alloc (.cells #[.int .i64 fb, .slice A2 lb.length c2] 24)).alloc (.cells #[.int .i64 0, .slice none 0 0] 24)) :=
    (((Below.refl _ _).alloc (Nat.le_refl _) _).alloc (by simp) _).alloc (by simp; omega) _
  have ct1 := ct _ (Rd.below ⟨A1, c1, rfl, hA1, hr1⟩ hb0) (hT.below hb0)
  obtain ⟨ra, ea, HA⟩ : ∃ ra ea, Hid (toR ⟨fa, la⟩ = (ra, ea)) := ⟨_, _, rfl⟩
  obtain ⟨rb, eb, HB⟩ : ∃ rb eb, Hid (toR ⟨fb, lb⟩ = (rb, eb)) := ⟨_, _, rfl⟩
  rw [HA.out] at ct1
  rw [HB.out] at cr
  have g0 : (((w.alloc (.cells #[.int .i64 fa, .slice A1 la.length c1] 24)).alloc (.cells #[.int .i64 fb, .slice A2 lb.length c2] 24)).alloc (.cells #[.int .i64 0, .slice none 0 0] 24)).heap[w.heap.size]? = some (.cells #[.int .i64 fa, .slice A1 la.length c1] 24 (0, 0)) :=
    (Below.heap_alloc _ _ _ (by simp; omega)).trans ((Below.heap_alloc _ _ _ (by simp)).trans (heap_alloc_new w _))
  have g1 : (((w.alloc (.cells #[.int .i64 fa, .slice A1 la.length c1] 24)).alloc (.cells #[.int .i64 fb, .slice A2 lb.length c2] 24)).alloc (.cells #[.int .i64 0, .slice none 0 0] 24)).heap[w.heap.size + 1]? = some (.cells #[.int .i64 fb, .slice A2 lb.length c2] 24 (0, 0)) :=
    (Below.heap_alloc _ _ _ (by simp)).trans (by simpa using heap_alloc_new (w.alloc (.cells #[.int .i64 fa, .slice A1 la.length c1] 24)) (.cells #[.int .i64 fb, .slice A2 lb.length c2] 24))
  have g2 : (((w.alloc (.cells #[.int .i64 fa, .slice A1 la.length c1] 24)).alloc (.cells #[.int .i64 fb, .slice A2 lb.length c2] 24)).alloc (.cells #[.int .i64 0, .slice none 0 0] 24)).heap[w.heap.size + 2]? = some (.cells #[.int .i64 0, .slice none 0 0] 24 (0, 0)) := by
    simpa using heap_alloc_new ((w.alloc (.cells #[.int .i64 fa, .slice A1 la.length c1] 24)).alloc (.cells #[.int .i64 fb, .slice A2 lb.length c2] 24)) (.cells #[.int .i64 0, .slice none 0 0] 24)
  obtain ⟨R, HRR⟩ : ∃ R, Hid (cmpR ⟨fa, la⟩ ⟨fb, lb⟩ = R) := ⟨_, rfl⟩
  rw [HRR.out]
  have H0 := Lib.hid g0
  have H1 := Lib.hid g1
  have H2 := Lib.hid g2
  have HC := Lib.hid ct1
  clear g0 g1 g2 ct ct1
  go_enter Tryd.func54, Tryd.ntmps54
  go_wp2_with fail
  with_reducible refine HC.out.mono ?_
  rintro e w1 ⟨rfl, hb1⟩
  unfold R2
  dsimp only
  have hbw1 : Below w.heap.size w w1 := hb0.trans (hb1.mono hb0.size)
  have k0 := (hb1.block _ (by simp; omega)).trans H0.out
  have k1 := (hb1.block _ (by simp)).trans H1.out
  have k2 := (hb1.block _ (by simp)).trans H2.out
  have hz1 : w.heap.size + 2 < w1.heap.size := (Array.getElem?_eq_some_iff.1 k2).1
  clear hb1 H0 H1 H2 HC
  have HK0 := Lib.hid k0
  have HK1 := Lib.hid k1
  have HK2 := Lib.hid k2
  by_cases hea : ea = 0
  · subst hea
    have j0 : w1.cell? ⟨w.heap.size + 1, 0, none⟩ = some (.int .i64 fb) := cell_of_row _ _ 0 _ _ _ k1
    have j1 : w1.cell? ⟨w.heap.size + 1, 1, none⟩ = some (.slice A2 lb.length c2) := cell_of_row _ _ 1 _ _ _ k1
    have cr1 := cr _ (Rd.below ⟨A2, c2, rfl, hA2, hr2⟩ hbw1) (hT.below hbw1)
    clear k0 k1 k2 cr
    go_wp2_with fail
    with_reducible refine cr1.mono ?_
    rintro e w2 ⟨rfl, hb2⟩
    dsimp only
    clear cr1
    have k0 := (hb2.block _ (by omega)).trans HK0.out
    have k1 := (hb2.block _ (by omega)).trans HK1.out
    have k2 := (hb2.block _ (by omega)).trans HK2.out
    have hbw2 : Below w.heap.size w w2 := hbw1.trans (hb2.mono hbw1.size)
    by_cases heb : eb = 0
    · subst heb
      have j0a : w2.cell? ⟨w.heap.size, 0, none⟩ = some (.int .i64 fa) := cell_of_row _ _ 0 _ _ _ k0
      have j1a : w2.cell? ⟨w.heap.size, 1, none⟩ = some (.slice A1 la.length c1) := cell_of_row _ _ 1 _ _ _ k0
      have j0b : w2.cell? ⟨w.heap.size + 1, 0, none⟩ = some (.int .i64 fb) := cell_of_row _ _ 0 _ _ _ k1
      have j1b : w2.cell? ⟨w.heap.size + 1, 1, none⟩ = some (.slice A2 lb.length c2) := cell_of_row _ _ 1 _ _ _ k1
      have hz2 : w.heap.size + 2 < w2.heap.size := (Array.getElem?_eq_some_iff.1 k2).1
      have HE := Lib.hid k2
      by_cases hf : ra = fb
      · subst hf
        have hfb : (ra != ra) = false := by simp
        have RA : Rt ⟨fa, la⟩ := toR_rt (by rw [HA.out])
        have RB : Rt ⟨ra, lb⟩ := toR_rt (by rw [HB.out])
        have crA : ∀ W, Below w2.heap.size w2 W → Calls Tryd.prog 115 #[.agg #[.int .i64 fa, .slice A1 la.length c1]] W (RowQ (normL la) W) := fun W hB => row_q (Rd.below ⟨A1, c1, rfl, hA1, hr1⟩ (hbw2.trans (hB.mono hbw2.size))) (hT.below (hbw2.trans (hB.mono hbw2.size))) RA
        have crB : ∀ W, Below w2.heap.size w2 W → Calls Tryd.prog 115 #[.agg #[.int .i64 ra, .slice A2 lb.length c2]] W (RowQ (normL lb) W) := fun W hB => row_q (Rd.below ⟨A2, c2, rfl, hA2, hr2⟩ (hbw2.trans (hB.mono hbw2.size))) (hT.below (hbw2.trans (hB.mono hbw2.size))) RB
        have hSS : ∀ W, Below w2.heap.size w2 W → W.cell? ⟨w.heap.size, 0, none⟩ = some (.int .i64 fa) ∧ W.cell? ⟨w.heap.size, 1, none⟩ = some (.slice A1 la.length c1) ∧ W.cell? ⟨w.heap.size + 1, 0, none⟩ = some (.int .i64 ra) ∧ W.cell? ⟨w.heap.size + 1, 1, none⟩ = some (.slice A2 lb.length c2) ∧ Below w2.heap.size w2 W := fun W hB =>
          ⟨(hB.cell (p := ⟨w.heap.size, 0, none⟩) (by show w.heap.size < _; omega)).trans j0a, (hB.cell (p := ⟨w.heap.size, 1, none⟩) (by show w.heap.size < _; omega)).trans j1a, (hB.cell (p := ⟨w.heap.size + 1, 0, none⟩) (by show w.heap.size + 1 < _; omega)).trans j0b, (hB.cell (p := ⟨w.heap.size + 1, 1, none⟩) (by show w.heap.size + 1 < _; omega)).trans j1b, hB⟩
        clear k1 k2
        have hk0 := Lib.hid k0
        clear k0
        go_wp2_with fail
        go_region_held3 (fun w' => w'.cell? ⟨w.heap.size, 0, none⟩ = some (.int .i64 fa) ∧ w'.cell? ⟨w.heap.size, 1, none⟩ = some (.slice A1 la.length c1) ∧ w'.cell? ⟨w.heap.size + 1, 0, none⟩ = some (.int .i64 ra) ∧ w'.cell? ⟨w.heap.size + 1, 1, none⟩ = some (.slice A2 lb.length c2) ∧ Below w2.heap.size w2 w')
          (first | exact hSS _ (Below.refl _ _).drew | exact hSS _ hB4 | exact hSS _ hB3 | go_keep)
          (first
            | (go_at_call 115; (with_reducible refine (crA _ (Below.refl _ _).drew).mono ?_); rintro e w3 ⟨rb1, v1, rfl, hb3, hl3, hp3, hr3⟩; have hB3 : Below w2.heap.size w2 w3 := (Below.refl _ _).drew.trans hb3)
            | (go_at_call 115; (with_reducible refine (crB _ hB3).mono ?_); rintro e w4 ⟨rb2, v2, rfl, hb4, hl4, hp4, hr4⟩; have hB4 : Below w2.heap.size w2 w4 := hB3.trans (hb4.mono hB3.size)))
        have hz3 : w2.heap.size ≤ w3.heap.size := hB3.size
        have hz4 : w3.heap.size ≤ w4.heap.size := hb4.size
        have hl3' : w2.heap.size ≤ rb1 := hl3
        have hr1s : rb1 < w3.heap.size := (Array.getElem?_eq_some_iff.1 hp3).1
        have hr2s : rb2 < w4.heap.size := (Array.getElem?_eq_some_iff.1 hp4).1
        have hww : w.heap.size ≤ w2.heap.size := hbw2.size
        have hres0 : ∀ r ∈ [(w.heap.size + 2, #[.int .i64 0, .slice none 0 0]), (w.heap.size, #[.int .i64 fa, .slice A1 la.length c1])], (w4.alloc (.cells #[.slice none 0 0, .int .i64 0] 127)).heap[r.1]? = some (.cells r.2 24 (0, 0)) := by
          intro r hr
          simp only [List.mem_cons, List.mem_nil_iff, or_false] at hr
          rcases hr with rfl | rfl
          · exact (Below.heap_alloc w4 _ _ (by show w.heap.size + 2 < _; omega)).trans ((hB4.block _ (by show w.heap.size + 2 < _; omega)).trans HE.out)
          · exact (Below.heap_alloc w4 _ _ (by show w.heap.size < _; omega)).trans ((hB4.block _ (by show w.heap.size < _; omega)).trans hk0.out)
        have inv0 : CInv w (w4.alloc (.cells #[.slice none 0 0, .int .i64 0] 127)) rb1 rb2 w4.heap.size [(w.heap.size + 2, #[.int .i64 0, .slice none 0 0]), (w.heap.size, #[.int .i64 fa, .slice A1 la.length c1])] v1 v2 (.slice none 0 0) (normL la) (normL lb) ([], 0) :=
          ⟨(hbw2.trans (hB4.mono hbw2.size)).alloc (by omega) _, hres0, (Below.heap_alloc w4 _ _ (by omega)).trans ((hb4.block _ hr1s).trans hp3), (Below.heap_alloc w4 _ _ (by omega)).trans hp4,
            heap_alloc_new w4 _, ((hr3.mono (show w.heap.size ≤ w2.heap.size from hww)).below hb4).below ((Below.refl _ _).alloc (Nat.le_refl _) _), (hr4.mono (by omega)).below ((Below.refl _ _).alloc (Nat.le_refl _) _), OwnO.nil _ _, by omega, by omega, by omega, by omega,
            fun k h1 h2 => by have := (hr3.lt k h1).2.1; have := (hr4.lt k h2).1; omega, fun k _ h2 => by simp [Value.ownBlock] at h2, fun k _ h2 => by simp [Value.ownBlock] at h2⟩
        have rel0 : CRel (cmpOut ⟨fa, la⟩ ⟨ra, lb⟩) (ms2 (normL la) + ms2 (normL lb)) (normL la) (normL lb) ([], 0) (ms2 (normL la) + ms2 (normL lb)) := crel_start RA RB
        have hK1 := RA.ms2
        have hK2 := RB.ms2
        have hKK : ms2 (normL la) + ms2 (normL lb) ≤ 80000 := Nat.le_trans (Nat.add_le_add hK1 hK2) (by omega)
        have HF : Hid (R = if (cmpOut ⟨fa, la⟩ ⟨ra, lb⟩).2 ≠ 0 then (⟨0, []⟩, (cmpOut ⟨fa, la⟩ ⟨ra, lb⟩).2) else if 2000 < (normL (cmpOut ⟨fa, la⟩ ⟨ra, lb⟩).1).length then (⟨0, []⟩, 2) else (⟨fa, normL (cmpOut ⟨fa, la⟩ ⟨ra, lb⟩).1⟩, 0)) := by
          rw [Hid, ← HRR.out]
          unfold cmpR
          rw [HA.out, HB.out, if_neg (by simp), if_neg (by simp), if_neg (by simp)]
        clear RA RB crA crB hSS hB3 hB4 hb3 hb4 hl3 hp3 hr3 hl4 hp4 hr4 j0a j1a j0b j1b HE HK0 HK1 HK2 HRR HA HB hbw1 hb2 hz3 hz4 hl3' hr1s hr2s hww hK1 hK2 hz1 hz2 hr1 hr2 hA1 hA2 hbw2 hb0 hres0 hk0
        generalize cmpOut ⟨fa, la⟩ ⟨ra, lb⟩ = F at *
        generalize normL la = LA at *
        generalize normL lb = LB at *
        have HR0 := Lib.hid rel0
        have HI0 := Lib.hid inv0
        clear rel0 inv0
        go_wp2_with fail
        go_loopg [] (ms2 LA + ms2 LB + 1) (fun g wr => ∃ X Y s k vx vy vw, k < g ∧ CInv w wr rb1 rb2 w4.heap.size [(w.heap.size + 2, #[.int .i64 0, .slice none 0 0]), (w.heap.size, #[.int .i64 fa, .slice A1 la.length c1])] vx vy vw X Y s ∧ CRel F (ms2 LA + ms2 LB) X Y s k)
        case atStart => exact ⟨_, _, _, _, _, _, _, Nat.lt_succ_self _, HI0.out, HR0.out⟩
        case round =>
          obtain ⟨X, Y, s, k, vx, vy, vw, hkg, inv, rel⟩ := hrel
          have cx : wr.cell? ⟨rb1, 0, none⟩ = some vx := cell_of_row _ _ 0 _ _ _ inv.hx
          have cy : wr.cell? ⟨rb2, 0, none⟩ = some vy := cell_of_row _ _ 0 _ _ _ inv.hy
          obtain ⟨Ax, nx, ex, _, _⟩ := inv.rx.rd
          obtain ⟨Ay, ny, ey, _, _⟩ := inv.ry.rd
          subst ex ey
          have bd := rel.bd
          by_cases h0 : X.length = 0 ∧ Y.length = 0
          · obtain rfl : X = [] := List.eq_nil_of_length_eq_zero h0.1
            obtain rfl : Y = [] := List.eq_nil_of_length_eq_zero h0.2
            have fin := rel.fin
            have hra := inv.res _ (.tail _ (.head _))
            have hrr := inv.res _ (.head _)
            have cF : wr.cell? ⟨w.heap.size, 0, none⟩ = some (.int .i64 fa) := cell_of_row _ _ 0 _ _ _ hra
            have cD := cDone w4.heap.size w.heap.size vw s.1 s.2 fa wr inv.hw inv.lw inv.ow (by have := bd.1; omega)
            have hdn : doneC fa (s.1, s.2) = R := by
              rw [HF.out, if_neg (by rw [fin.2]; simp)]
              unfold doneC normL normS
              rw [← fin.1]
            rw [hdn] at cD
            have HI := Lib.hid inv
            have HRR2 := Lib.hid hrr
            clear inv rel fin hdn h0 HF hra hrr
            simp only [List.length_nil] at *
            go_wp2_with fail
            with_reducible refine cD.mono ?_
            rintro e w5 ⟨v5, rfl, hr5, hc5⟩
            have hres5 := (hc5.block _ (Array.getElem?_eq_some_iff.1 HRR2.out).1 (fun e => e.elim (fun e => heap_ne HRR2.out HI.out.hw (by decide) e) (fun e => own_ne_blockO HI.out.ow HRR2.out (by decide) _ e rfl))).trans HRR2.out
            have hb5 : Below w.heap.size w w5 := HI.out.below.trans (hc5.below HI.out.below.size fun k hk => hk.elim (fun e => by rw [e]; exact HI.out.lw) (fun e => (HI.out.ow.lt k e).1))
            have j5 : w5.frozen? ⟨w.heap.size + 1 + 1, 0, none⟩ = false := frozen_of_row _ _ 0 _ _ hres5
            have j6 : w5.frozen? ⟨w.heap.size + 1 + 1, 1, none⟩ = false := frozen_of_row _ _ 1 _ _ hres5
            have j7 : w5.cell? ⟨w.heap.size + 1 + 1, 0, none⟩ = some (.int .i64 0) := cell_of_row _ _ 0 _ _ _ hres5
            have j8 : w5.cell? ⟨w.heap.size + 1 + 1, 1, none⟩ = some (.slice none 0 0) := cell_of_row _ _ 1 _ _ _ hres5
            have HE5 := Lib.hid hres5
            clear hres5 hc5 cD
            obtain ⟨A5, n5, ev5, _, _⟩ := hr5.rd
            subst ev5
            go_wp2_with fail
            exact cmp_end hb5 HE5.out _ R _ hr5 rfl rfl rfl
          · obtain ⟨k, rfl⟩ := rel.pos h0
            have hd : decide (0 < X.length) = true ∨ (decide (0 < X.length) = false ∧ decide (0 < Y.length) = true) := by
              by_cases h : X.length = 0
              · exact .inr ⟨decide_eq_false (by omega), decide_eq_true (by omega)⟩
              · exact .inl (decide_eq_true (by omega))
            have hTw : ∀ {W : World} {vx vy vw : Value} {X Y : List Op} {s : List Op × Int}, CInv w W rb1 rb2 w4.heap.size [(w.heap.size + 2, #[.int .i64 0, .slice none 0 0]), (w.heap.size, #[.int .i64 fa, .slice A1 la.length c1])] vx vy vw X Y s → Tabs W := fun h => hT.below h.below
            obtain ⟨hx, HX⟩ : ∃ o, Hid (headC X = o) := ⟨_, rfl⟩
            obtain ⟨hy, HY⟩ : ∃ o, Hid (headC Y = o) := ⟨_, rfl⟩
            have fk := fun (o : Op) (A : Option Addr) (c : Nat) (W : World) => op_field_kind o.kind o.n o.text (.slice A o.attrs.length c) W
            have fn := fun (o : Op) (A : Option Addr) (c : Nat) (W : World) => op_field_n o.kind o.n o.text (.slice A o.attrs.length c) W
            have q1 := inv.headX HX.out
            have HI := Lib.hid inv
            by_cases hk3 : hx.kind = 3
            · have hkb : (hx.kind == 3) = true := by simp [hk3]
              obtain ⟨p, X', eT⟩ : ∃ p X', takeC (headC X).n X = (p, X') := ⟨_, _, rfl⟩
              obtain ⟨rel2, pk⟩ := rel.del h0 (by rw [HX.out]; exact hk3) eT
              rw [HX.out] at eT
              have hnb : hx.n ≤ 4611686018427387904 := by rw [← HX.out]; exact headN_bd rel.gx rel.nx
              have HR := Lib.hid rel2
              have HT := Lib.hid eT
              have HPK := Lib.hid pk
              clear inv rel rel2 h0 hk3 eT pk
              rcases hd with hd1 | ⟨hd1, hd2⟩
              all_goals
                go_wp2_with fail
                with_reducible refine q1.mono ?_
                rintro e w5 ⟨A5, n5, rfl, inv5, hf5⟩
                have f5 := fk hx A5 n5
                have q2 := inv5.headX HX.out
                clear inv5 q1 hf5
                go_wp2_with fail
                with_reducible refine q2.mono ?_
                rintro e w6 ⟨A6, n6, rfl, inv6, hf6⟩
                have f6 := fn hx A6 n6
                have q3 := inv6.takeX (hTw inv6) hnb HT.out
                clear inv6 q2 hf6 f5
                go_wp2_with fail
                with_reducible refine q3.mono ?_
                rintro e w7 ⟨A7, n7, rfl, inv7, ho7, hf7, hc7⟩
                have q4 := inv7.wDel HPK.out A7 p.attrs.length n7
                clear inv7 q3 ho7 hf7 hc7 f6
                go_wp2_with fail
                with_reducible refine q4.mono ?_
                rintro e w8 ⟨rfl, vw8, inv8⟩
                have q5 := inv8.dropX
                clear inv8 q4
                go_wp2_with fail
                with_reducible refine q5.mono ?_
                rintro e w9 ⟨rfl, vx9, inv9⟩
                have q6 := inv9.dropY
                clear inv9 q5
                go_wp2_with fail
                with_reducible refine q6.mono ?_
                rintro e w10 ⟨rfl, vy10, inv10⟩
                have HI10 := Lib.hid inv10
                clear inv10 q6
                go_wp2_with fail
                go_roundg (k + 1)
                case measure => omega
                case rel => exact ⟨_, _, _, _, _, _, _, Nat.lt_succ_self _, HI10.out, HR.out⟩
            · have hkb : (hx.kind == 3) = false := by simp [hk3]
              have hkx : (headC X).kind ≠ 3 := by rw [HX.out]; exact hk3
              have HK3 := Lib.hid hk3
              clear hk3
              by_cases hk2 : hy.kind = 2
              · have hkc : (hy.kind == 2) = true := by simp [hk2]
                obtain ⟨p, Y', eT⟩ : ∃ p Y', takeC (longC (headC Y)) Y = (p, Y') := ⟨_, _, rfl⟩
                obtain ⟨rel2, pk⟩ := rel.ins h0 hkx (by rw [HY.out]; exact hk2) eT
                have hlb : longC (headC Y) ≤ 4611686018427387904 := longC_bd rel.ty rel.gy rel.ny
                have hts : p.text.size ≤ 80000 := by have := (rel.ty.take (longC (headC Y))).1; rw [eT] at this; exact this
                rw [HY.out] at eT hlb
                have HR := Lib.hid rel2
                have HT := Lib.hid eT
                have HPK := Lib.hid pk
                clear inv rel rel2 h0 hk2 eT pk hkx
                rcases hd with hd1 | ⟨hd1, hd2⟩
                all_goals
                  go_wp2_with fail
                  with_reducible refine q1.mono ?_
                  rintro e w5 ⟨A5, n5, rfl, inv5, hf5⟩
                  have f5 := fk hx A5 n5
                  have q2 := inv5.headY HY.out
                  clear inv5 q1 hf5
                  go_wp2_with fail
                  with_reducible refine q2.mono ?_
                  rintro e w6 ⟨A6, n6, rfl, inv6, hf6⟩
                  have f6 := fk hy A6 n6
                  have q3 := inv6.headY HY.out
                  clear inv6 q2 hf6 f5
                  go_wp2_with fail
                  with_reducible refine q3.mono ?_
                  rintro e w7 ⟨A7, n7, rfl, inv7, hf7⟩
                  have q4 := inv7.long hf7 A7 hy.attrs.length n7
                  clear inv7 q3 hf7 f6
                  go_wp2_with fail
                  with_reducible refine q4.mono ?_
                  rintro e w8 ⟨rfl, inv8⟩
                  have q5 := inv8.takeY (hTw inv8) hlb HT.out
                  clear inv8 q4
                  go_wp2_with fail
                  with_reducible refine q5.mono ?_
                  rintro e w9 ⟨A9, n9, rfl, inv9, ho9, hf9, hc9⟩
                  have q6 := inv9.wIns HPK.out ho9 hf9 (fun x hx => by have := bd.2 x hx; omega) (by have := bd.1; omega)
                  clear inv9 q5 ho9 hf9 hc9
                  go_wp2_with fail
                  with_reducible refine q6.mono ?_
                  rintro e w10 ⟨rfl, vw10, inv10⟩
                  have q7 := inv10.dropX
                  clear inv10 q6
                  go_wp2_with fail
                  with_reducible refine q7.mono ?_
                  rintro e w11 ⟨rfl, vx11, inv11⟩
                  have q8 := inv11.dropY
                  clear inv11 q7
                  go_wp2_with fail
                  with_reducible refine q8.mono ?_
                  rintro e w12 ⟨rfl, vy12, inv12⟩
                  have HI12 := Lib.hid inv12
                  clear inv12 q8
                  go_wp2_with fail
                  go_roundg (k + 1)
                  case measure => omega
                  case rel => exact ⟨_, _, _, _, _, _, _, Nat.lt_succ_self _, HI12.out, HR.out⟩
              · have hkc : (hy.kind == 2) = false := by simp [hk2]
                have hky : (headC Y).kind ≠ 2 := by rw [HY.out]; exact hk2
                obtain ⟨lx, HLX⟩ : ∃ lx, Hid (longC hx = lx) := ⟨_, rfl⟩
                obtain ⟨ly, HLY⟩ : ∃ ly, Hid (longC hy = ly) := ⟨_, rfl⟩
                have en : min (longC (headC X)) (longC (headC Y)) = min lx ly := by rw [HX.out, HY.out, HLX.out, HLY.out]
                have hnb : min lx ly ≤ 4611686018427387904 := by
                  have := longC_bd rel.tx rel.gx rel.nx
                  rw [HX.out, HLX.out] at this
                  omega
                obtain ⟨p, X', e1⟩ : ∃ p X', takeC (min lx ly) X = (p, X') := ⟨_, _, rfl⟩
                obtain ⟨q, Y', e2⟩ : ∃ q Y', takeC (min lx ly) Y = (q, Y') := ⟨_, _, rfl⟩
                obtain ⟨m1, m2⟩ := rel.met h0 hkx hky en e1 e2
                have hpk : p.kind = 1 ∨ p.kind = 2 := by
                  have := takeC_kind rel.gx (min lx ly)
                  rw [e1] at this
                  dsimp only at this
                  omega
                have hqk : q.kind = 1 ∨ q.kind = 3 := by
                  have := takeC_kind rel.gy (min lx ly)
                  rw [e2] at this
                  dsimp only at this
                  omega
                have hpt : p.text.size ≤ 80000 := by have := (rel.tx.take (min lx ly)).1; rw [e1] at this; exact this
                obtain ⟨pk, pn, pt, pa⟩ := p
                obtain ⟨qk, qn, qt, qa⟩ := q
                dsimp only at hpk hqk hpt
                have er : rightC (min lx ly) ⟨qk, qn, qt, qa⟩ = ⟨qk, min lx ly, qt, qa⟩ := by unfold rightC; rw [if_pos (by dsimp only; omega)]
                rw [er] at m1 m2
                have HT1 := Lib.hid e1
                have HT2 := Lib.hid e2
                have HM1 := Lib.hid m1
                have HM2 := Lib.hid m2
                clear inv rel h0 hk2 e1 e2 m1 m2 hkx hky en er
                have hqb : (qk != 2) = true := by rcases hqk with rfl | rfl <;> decide
                rcases hd with hd1 | ⟨hd1, hd2⟩
                all_goals
                  rcases hpk with rfl | rfl
                  · go_wp2_with fail
                    with_reducible refine q1.mono ?_
                    rintro e w5 ⟨A5, n5, rfl, inv5, hf5⟩
                    have f5 := fk hx A5 n5
                    have q2 := inv5.headY HY.out
                    clear inv5 q1 hf5
                    go_wp2_with fail
                    with_reducible refine q2.mono ?_
                    rintro e w6 ⟨A6, n6, rfl, inv6, hf6⟩
                    have f6 := fk hy A6 n6
                    have q3 := inv6.headX HX.out
                    clear inv6 q2 hf6 f5
                    go_wp2_with fail
                    with_reducible refine q3.mono ?_
                    rintro e w7 ⟨A7, n7, rfl, inv7, hf7⟩
                    have q4 := inv7.long hf7 A7 hx.attrs.length n7
                    rw [HLX.out] at q4
                    clear inv7 q3 hf7 f6
                    go_wp2_with fail
                    with_reducible refine q4.mono ?_
                    rintro e w8 ⟨rfl, inv8⟩
                    have q5 := inv8.headY HY.out
                    clear inv8 q4
                    go_wp2_with fail
                    with_reducible refine q5.mono ?_
                    rintro e w9 ⟨A9, n9, rfl, inv9, hf9⟩
                    have q6 := inv9.long hf9 A9 hy.attrs.length n9
                    rw [HLY.out] at q6
                    clear inv9 q5 hf9
                    go_wp2_with fail
                    with_reducible refine q6.mono ?_
                    rintro e w10 ⟨rfl, inv10⟩
                    have q7 := inv10.takeX (hTw inv10) hnb HT1.out
                    clear inv10 q6
                    go_wp2_with fail
                    with_reducible refine q7.mono ?_
                    rintro e w11 ⟨Ap, cp, rfl, inv11, hp11, hf11, hc11⟩
                    have q8 := inv11.takeY (hTw inv11) hnb HT2.out
                    have hKY := Lib.hid inv11
                    clear inv11 q7 hc11
                    go_wp2_with fail
                    with_reducible refine q8.mono ?_
                    rintro e w12 ⟨Aq, cq, rfl, inv12, hq12, hf12, hc12⟩
                    have hp12 := hKY.out.keepY hp11 hc12
                    clear q8 hp11 hf12 hc12 hKY
                    go_wp2_with fail
                    have hbx : ∀ x y : Obj, Below w12.heap.size w12 ((w12.alloc x).alloc y) := fun x y => ((Below.refl _ _).alloc (Nat.le_refl _) x).alloc (by simp) y
                    have q9 := fun W (hB : Below w12.heap.size w12 W) => (inv12.far hB).meet (p := (⟨1, min lx ly, pt, pa⟩ : Op)) (q := ⟨qk, min lx ly, qt, qa⟩) (hp12.below hB) (hq12.below hB) hf11 (.inl rfl) hqk (fun x hx => by have := bd.2 x hx; dsimp only; omega) (by have := bd.1; omega)
                    have M1 : (meetC (⟨1, min lx ly, pt, pa⟩ : Op) ⟨qk, min lx ly, qt, qa⟩).2 = 0 → CRel F (ms2 LA + ms2 LB) (dropC X') (dropC Y') ((meetC (⟨1, min lx ly, pt, pa⟩ : Op) ⟨qk, min lx ly, qt, qa⟩).1.foldl nStep s) k := HM1.out
                    have M2 : (meetC (⟨1, min lx ly, pt, pa⟩ : Op) ⟨qk, min lx ly, qt, qa⟩).2 ≠ 0 → F.2 = (meetC (⟨1, min lx ly, pt, pa⟩ : Op) ⟨qk, min lx ly, qt, qa⟩).2 := HM2.out
                    obtain ⟨r1, r2, HMC⟩ : ∃ r1 r2, Hid (meetC (⟨1, min lx ly, pt, pa⟩ : Op) ⟨qk, min lx ly, qt, qa⟩ = (r1, r2)) := ⟨_, _, rfl⟩
                    simp only [HMC.out] at q9
                    rw [HMC.out] at M1 M2
                    have HMA := Lib.hid M1
                    have HMB := Lib.hid M2
                    clear inv12 hp12 hq12 hf11 M1 M2 HMC
                    with_reducible refine (q9 _ (hbx _ _)).mono ?_
                    rintro e w13 ⟨rfl, vw13, inv13⟩
                    have hrr := inv13.res _ (.head _)
                    have j5 : w13.frozen? ⟨w.heap.size + 1 + 1, 0, none⟩ = false := frozen_of_row _ _ 0 _ _ hrr
                    have j6 : w13.frozen? ⟨w.heap.size + 1 + 1, 1, none⟩ = false := frozen_of_row _ _ 1 _ _ hrr
                    have j7 : w13.cell? ⟨w.heap.size + 1 + 1, 0, none⟩ = some (.int .i64 0) := cell_of_row _ _ 0 _ _ _ hrr
                    have j8 : w13.cell? ⟨w.heap.size + 1 + 1, 1, none⟩ = some (.slice none 0 0) := cell_of_row _ _ 1 _ _ _ hrr
                    have HRS := Lib.hid hrr
                    clear q9 hrr hbx
                    by_cases hr2 : r2 = 0
                    · have hrb : (r2 != 0) = false := by simp [hr2]
                      have HRL := Lib.hid (HMA.out hr2)
                      have q10 := inv13.dropX
                      clear inv13 hr2 HMA HMB j5 j6 j7 j8 HRS
                      go_wp2_with fail
                      with_reducible refine q10.mono ?_
                      rintro e w14 ⟨rfl, vx14, inv14⟩
                      have q11 := inv14.dropY
                      clear inv14 q10
                      go_wp2_with fail
                      with_reducible refine q11.mono ?_
                      rintro e w15 ⟨rfl, vy15, inv15⟩
                      have HI15 := Lib.hid inv15
                      clear inv15 q11
                      go_wp2_with fail
                      go_roundg (k + 1)
                      case measure => omega
                      case rel => exact ⟨_, _, _, _, _, _, _, Nat.lt_succ_self _, HI15.out, HRL.out⟩
                    · have hrb : (r2 != 0) = true := by simp [hr2]
                      have hR : R = (⟨0, []⟩, r2) := by rw [HF.out, if_pos (by rw [HMB.out hr2]; exact hr2), HMB.out hr2]
                      have HRE := Lib.hid hR
                      have HB13 := Lib.hid inv13.below
                      clear inv13 hr2 HMA HMB hR
                      go_wp2_with fail
                      rw [HRE.out]
                      exact cmp_end HB13.out HRS.out _ (⟨0, []⟩, r2) _ (RowO.nil _ _) rfl rfl rfl
                  · go_wp2_with fail
                    with_reducible refine q1.mono ?_
                    rintro e w5 ⟨A5, n5, rfl, inv5, hf5⟩
                    have f5 := fk hx A5 n5
                    have q2 := inv5.headY HY.out
                    clear inv5 q1 hf5
                    go_wp2_with fail
                    with_reducible refine q2.mono ?_
                    rintro e w6 ⟨A6, n6, rfl, inv6, hf6⟩
                    have f6 := fk hy A6 n6
                    have q3 := inv6.headX HX.out
                    clear inv6 q2 hf6 f5
                    go_wp2_with fail
                    with_reducible refine q3.mono ?_
                    rintro e w7 ⟨A7, n7, rfl, inv7, hf7⟩
                    have q4 := inv7.long hf7 A7 hx.attrs.length n7
                    rw [HLX.out] at q4
                    clear inv7 q3 hf7 f6
                    go_wp2_with fail
                    with_reducible refine q4.mono ?_
                    rintro e w8 ⟨rfl, inv8⟩
                    have q5 := inv8.headY HY.out
                    clear inv8 q4
                    go_wp2_with fail
                    with_reducible refine q5.mono ?_
                    rintro e w9 ⟨A9, n9, rfl, inv9, hf9⟩
                    have q6 := inv9.long hf9 A9 hy.attrs.length n9
                    rw [HLY.out] at q6
                    clear inv9 q5 hf9
                    go_wp2_with fail
                    with_reducible refine q6.mono ?_
                    rintro e w10 ⟨rfl, inv10⟩
                    have q7 := inv10.takeX (hTw inv10) hnb HT1.out
                    clear inv10 q6
                    go_wp2_with fail
                    with_reducible refine q7.mono ?_
                    rintro e w11 ⟨Ap, cp, rfl, inv11, hp11, hf11, hc11⟩
                    have q8 := inv11.takeY (hTw inv11) hnb HT2.out
                    have hKY := Lib.hid inv11
                    clear inv11 q7 hc11
                    go_wp2_with fail
                    with_reducible refine q8.mono ?_
                    rintro e w12 ⟨Aq, cq, rfl, inv12, hq12, hf12, hc12⟩
                    have hp12 := hKY.out.keepY hp11 hc12
                    clear q8 hp11 hf12 hc12 hKY
                    go_wp2_with fail
                    have hbx : ∀ x y : Obj, Below w12.heap.size w12 ((w12.alloc x).alloc y) := fun x y => ((Below.refl _ _).alloc (Nat.le_refl _) x).alloc (by simp) y
                    have q9 := fun W (hB : Below w12.heap.size w12 W) => (inv12.far hB).meet (p := (⟨2, pn, pt, pa⟩ : Op)) (q := ⟨qk, min lx ly, qt, qa⟩) (hp12.below hB) (hq12.below hB) hf11 (.inr rfl) hqk (fun x hx => by have := bd.2 x hx; dsimp only; omega) (by have := bd.1; omega)
                    have M1 : (meetC (⟨2, pn, pt, pa⟩ : Op) ⟨qk, min lx ly, qt, qa⟩).2 = 0 → CRel F (ms2 LA + ms2 LB) (dropC X') (dropC Y') ((meetC (⟨2, pn, pt, pa⟩ : Op) ⟨qk, min lx ly, qt, qa⟩).1.foldl nStep s) k := HM1.out
                    have M2 : (meetC (⟨2, pn, pt, pa⟩ : Op) ⟨qk, min lx ly, qt, qa⟩).2 ≠ 0 → F.2 = (meetC (⟨2, pn, pt, pa⟩ : Op) ⟨qk, min lx ly, qt, qa⟩).2 := HM2.out
                    obtain ⟨r1, r2, HMC⟩ : ∃ r1 r2, Hid (meetC (⟨2, pn, pt, pa⟩ : Op) ⟨qk, min lx ly, qt, qa⟩ = (r1, r2)) := ⟨_, _, rfl⟩
                    simp only [HMC.out] at q9
                    rw [HMC.out] at M1 M2
                    have HMA := Lib.hid M1
                    have HMB := Lib.hid M2
                    clear inv12 hp12 hq12 hf11 M1 M2 HMC
                    with_reducible refine (q9 _ (hbx _ _)).mono ?_
                    rintro e w13 ⟨rfl, vw13, inv13⟩
                    have hrr := inv13.res _ (.head _)
                    have j5 : w13.frozen? ⟨w.heap.size + 1 + 1, 0, none⟩ = false := frozen_of_row _ _ 0 _ _ hrr
                    have j6 : w13.frozen? ⟨w.heap.size + 1 + 1, 1, none⟩ = false := frozen_of_row _ _ 1 _ _ hrr
                    have j7 : w13.cell? ⟨w.heap.size + 1 + 1, 0, none⟩ = some (.int .i64 0) := cell_of_row _ _ 0 _ _ _ hrr
                    have j8 : w13.cell? ⟨w.heap.size + 1 + 1, 1, none⟩ = some (.slice none 0 0) := cell_of_row _ _ 1 _ _ _ hrr
                    have HRS := Lib.hid hrr
                    clear q9 hrr hbx
                    by_cases hr2 : r2 = 0
                    · have hrb : (r2 != 0) = false := by simp [hr2]
                      have HRL := Lib.hid (HMA.out hr2)
                      have q10 := inv13.dropX
                      clear inv13 hr2 HMA HMB j5 j6 j7 j8 HRS
                      go_wp2_with fail
                      with_reducible refine q10.mono ?_
                      rintro e w14 ⟨rfl, vx14, inv14⟩
                      have q11 := inv14.dropY
                      clear inv14 q10
                      go_wp2_with fail
                      with_reducible refine q11.mono ?_
                      rintro e w15 ⟨rfl, vy15, inv15⟩
                      have HI15 := Lib.hid inv15
                      clear inv15 q11
                      go_wp2_with fail
                      go_roundg (k + 1)
                      case measure => omega
                      case rel => exact ⟨_, _, _, _, _, _, _, Nat.lt_succ_self _, HI15.out, HRL.out⟩
                    · have hrb : (r2 != 0) = true := by simp [hr2]
                      have hR : R = (⟨0, []⟩, r2) := by rw [HF.out, if_pos (by rw [HMB.out hr2]; exact hr2), HMB.out hr2]
                      have HRE := Lib.hid hR
                      have HB13 := Lib.hid inv13.below
                      clear inv13 hr2 HMA HMB hR
                      go_wp2_with fail
                      rw [HRE.out]
                      exact cmp_end HB13.out HRS.out _ (⟨0, []⟩, r2) _ (RowO.nil _ _) rfl rfl rfl
      · have hfb : (ra != fb) = true := by simp [hf]
        obtain rfl : R = (⟨0, []⟩, 31) := by
          rw [← HRR.out]
          unfold cmpR
          rw [HA.out, HB.out, if_neg (by simp), if_neg (by simp), if_pos hf]
        have j5 : w2.frozen? ⟨w.heap.size + 1 + 1, 0, none⟩ = false := frozen_of_row _ _ 0 _ _ k2
        have j6 : w2.frozen? ⟨w.heap.size + 1 + 1, 1, none⟩ = false := frozen_of_row _ _ 1 _ _ k2
        have j7 : w2.cell? ⟨w.heap.size + 1 + 1, 0, none⟩ = some (.int .i64 0) := cell_of_row _ _ 0 _ _ _ k2
        have j8 : w2.cell? ⟨w.heap.size + 1 + 1, 1, none⟩ = some (.slice none 0 0) := cell_of_row _ _ 1 _ _ _ k2
        clear k0 k1 k2 hf
        go_wp2_with fail
        exact cmp_end hbw2 HE.out _ _ _ (RowO.nil _ _) rfl rfl rfl
    · have heb2 : (eb != 0) = true := by simp [heb]
      obtain rfl : R = (⟨0, []⟩, eb) := by
        rw [← HRR.out]
        unfold cmpR
        rw [HA.out, HB.out, if_neg (by simp), if_pos heb]
      have j5 : w2.frozen? ⟨w.heap.size + 1 + 1, 0, none⟩ = false := frozen_of_row _ _ 0 _ _ k2
      have j6 : w2.frozen? ⟨w.heap.size + 1 + 1, 1, none⟩ = false := frozen_of_row _ _ 1 _ _ k2
      have j7 : w2.cell? ⟨w.heap.size + 1 + 1, 0, none⟩ = some (.int .i64 0) := cell_of_row _ _ 0 _ _ _ k2
      have j8 : w2.cell? ⟨w.heap.size + 1 + 1, 1, none⟩ = some (.slice none 0 0) := cell_of_row _ _ 1 _ _ _ k2
      have HE := Lib.hid k2
      clear k0 k1 k2 heb
      go_wp2_with fail
      exact cmp_end hbw2 HE.out _ _ _ (RowO.nil _ _) rfl rfl rfl
  · have hea2 : (ea != 0) = true := by simp [hea]
    obtain rfl : R = (⟨0, []⟩, ea) := by
      rw [← HRR.out]
      unfold cmpR
      rw [HA.out, if_pos hea]
    have j5 : w1.frozen? ⟨w.heap.size + 1 + 1, 0, none⟩ = false := frozen_of_row _ _ 0 _ _ k2
    have j6 : w1.frozen? ⟨w.heap.size + 1 + 1, 1, none⟩ = false := frozen_of_row _ _ 1 _ _ k2
    have j7 : w1.cell? ⟨w.heap.size + 1 + 1, 0, none⟩ = some (.int .i64 0) := cell_of_row _ _ 0 _ _ _ k2
    have j8 : w1.cell? ⟨w.heap.size + 1 + 1, 1, none⟩ = some (.slice none 0 0) := cell_of_row _ _ 1 _ _ _ k2
    clear k0 k1 k2 hea
    go_wp2_with fail
    exact cmp_end hbw1 HK2.out _ _ _ (RowO.nil _ _) rfl rfl rfl
end Go.Proofs.YtaemajcpgmaapaaDoor

namespace Go.Proofs.YtaemajcpgmaapaaDoor
open Go.RowKit

theorem keep_law (n : Int) (va : Value) (w : World) (hva : ∃ A n c, va = .slice A n c) :
    Calls Tryd.prog 99 #[.int .i64 n, va] w fun e w' => e = .returned (.agg #[.int .i64 1, .int .i64 n, .string ⟨#[]⟩, va]) ∧ Below w.heap.size w w' := by
  obtain ⟨A, m, c, rfl⟩ := hva
  go_enter Tryd.func99, Tryd.ntmps99
  go_wp2_with fail
  exact bodyPost_ret (v := .agg #[.int .i64 1, .int .i64 n, .string ⟨#[]⟩, .slice A m c]) (by simp [results, Tryd.results99, go_sem]) rfl ⟨rfl, (Below.refl _ _).alloc (Nat.le_refl _) _⟩
theorem cut_law (n : Int) (w : World) :
    Calls Tryd.prog 100 #[.int .i64 n] w fun e w' => e = .returned (.agg #[.int .i64 3, .int .i64 n, .string ⟨#[]⟩, .slice none 0 0]) ∧ Below w.heap.size w w' := by
  go_enter Tryd.func100, Tryd.ntmps100
  go_wp2_with fail
  exact bodyPost_ret (v := .agg #[.int .i64 3, .int .i64 n, .string ⟨#[]⟩, .slice none 0 0]) (by simp [results, Tryd.results100, go_sem]) rfl ⟨rfl, (Below.refl _ _).alloc (Nat.le_refl _) _⟩
/-- Operations without attributes, laid by a literal. -/
def litO (l : List Op) : Array Value := (ocells (l.map fun o => (o, .slice none 0 0))).toArray
theorem row_lit {w : World} {B : Nat} {l : List Op} (h : w.heap[B]? = some (.cells (litO l) 30 (0, 0))) (ha : ∀ o ∈ l, o.attrs = [] ∧ Fits o.text) (hl : l.length ≤ 1000) : RowO 0 w (.slice (some ⟨B, 0, none⟩) l.length l.length) l := by
  refine ⟨l.map fun o => (o, .slice none 0 0), by simp [Function.comp_def], .inr ⟨B, 0, l.length, litO l, rfl, Nat.le_refl _, by omega, Nat.zero_le _, h, fun j u hu => ?_⟩, fun p hp => ?_, by omega⟩
  · rw [Nat.zero_add]
    unfold litO
    simpa using hu
  · obtain ⟨o, ho, rfl⟩ := List.mem_map.1 hp
    dsimp only
    rw [(ha o ho).1]
    exact ⟨OwnA.nil _ _, (ha o ho).2⟩
/-- A changeset laid by literals: its row, then its box. -/
theorem box_lit {w : World} {f : Int} {l : List Op} {cs : Array Value} {n : Nat} (hc : cs = litO l) (hn : n = l.length) (ha : ∀ o ∈ l, o.attrs = [] ∧ Fits o.text) (hl : l.length ≤ 1000) :
    BoxC ((w.alloc (.cells cs 30)).alloc (.cells #[.int .i64 f, .slice (some ⟨w.heap.size, 0, none⟩) n n] 24)) (w.heap.size + 1) ⟨f, l⟩ (.slice (some ⟨w.heap.size, 0, none⟩) n n) (fun k => 0 ≤ k) := by
  subst hc hn
  have h1 := row_lit (w := w.alloc (.cells (litO l) 30)) (heap_alloc_new w _) ha hl
  have h2 := BoxC.new (c := ⟨f, l⟩) h1.rd
  simpa using h2
theorem cw1 : cmpR ⟨3, [⟨2, 0, ⟨#[120]⟩, []⟩, ⟨3, 1, ⟨#[]⟩, []⟩]⟩ ⟨3, [⟨1, 1, ⟨#[]⟩, []⟩, ⟨2, 0, ⟨#[121]⟩, []⟩, ⟨3, 1, ⟨#[]⟩, []⟩]⟩ = (⟨3, [⟨2, 0, ⟨#[120, 121]⟩, []⟩, ⟨3, 2, ⟨#[]⟩, []⟩]⟩, 0) := by kernel_rfl
theorem cw2 : cmpR ⟨3, [⟨2, 0, ⟨#[120]⟩, []⟩, ⟨3, 1, ⟨#[]⟩, []⟩]⟩ ⟨2, []⟩ = (⟨0, []⟩, 31) := by kernel_rfl
theorem fits_lit {l : List Op} (h : (l.all fun o => o.attrs.isEmpty && decide (o.text.size ≤ 8)) = true) : ∀ o ∈ l, o.attrs = [] ∧ Fits o.text := fun o ho => by
  have := List.all_eq_true.1 h o ho
  rw [Bool.and_eq_true] at this
  refine ⟨List.isEmpty_iff.1 this.1, ?_⟩
  have := of_decide_eq_true this.2
  unfold Fits
  omega

set_option maxRecDepth 100000 in
set_option maxHeartbeats 2000000 in
theorem awake6 (w : World) (hT : Tabs w) : Calls Tryd.prog 53 #[] w fun e w' => e = .returned (.bool true) ∧ Below w.heap.size w w' := by
  have cP := fun s W => put_law s (.slice none 0 0) W ⟨_, _, _, rfl⟩
  have cK := fun n W => keep_law n (.slice none 0 0) W ⟨_, _, _, rfl⟩
  have cX := fun n W => cut_law n W
  have E1 := Lib.hid cw1
  have E2 := Lib.hid cw2
  go_enter Tryd.func53, Tryd.ntmps53
  go_wp2_with fail
  with_reducible refine (cP _ _).mono ?_
  rintro e w1 ⟨rfl, hb1⟩
  go_wp2_with fail
  with_reducible refine (cX _ _).mono ?_
  rintro e w2 ⟨rfl, hb2⟩
  have hbw2 : Below w.heap.size w w2 := hb1.trans (hb2.mono hb1.size)
  have BA := box_lit (w := w2) (n := 2) (f := 3) (l := [⟨2, 0, ⟨#[120]⟩, []⟩, ⟨3, 1, ⟨#[]⟩, []⟩]) rfl rfl (fits_lit (by kernel_rfl)) (by decide)
  have hbv2 := (hbw2.alloc hbw2.size (.cells #[.int .i64 2, .int .i64 0, .string ⟨#[120]⟩, .slice none 0 0, .int .i64 3, .int .i64 1, .string ⟨#[]⟩, .slice none 0 0] 30)).alloc (by have := hbw2.size; simp; omega) (.cells #[.int .i64 3, .slice (some ⟨w2.heap.size, 0, none⟩) 2 2] 24)
  have HBA := Lib.hid BA
  have HB := Lib.hid hbv2
  clear hb1 hb2 hbw2 BA hbv2
  go_wp2_with fail
  with_reducible refine (cK _ _).mono ?_
  rintro e w3 ⟨rfl, hb3⟩
  have hbw3 := HB.out.trans (hb3.mono HB.out.size)
  have BA := HBA.out.next hb3
  have HBA := Lib.hid BA
  clear hb3 BA HB
  go_wp2_with fail
  with_reducible refine (cP _ _).mono ?_
  rintro e w4 ⟨rfl, hb4⟩
  have hbw4 := hbw3.trans (hb4.mono hbw3.size)
  have BA := HBA.out.next hb4
  have HBA := Lib.hid BA
  clear hb4 BA hbw3
  go_wp2_with fail
  with_reducible refine (cX _ _).mono ?_
  rintro e w5 ⟨rfl, hb5⟩
  have hbw5 := hbw4.trans (hb5.mono hbw4.size)
  have BA5 := HBA.out.next hb5
  have f0 := fun o o' => ((BA5.alloc o).alloc o').c0
  have f1 := fun o o' => ((BA5.alloc o).alloc o').c1
  have BA := (BA5.alloc (.cells #[.int .i64 1, .int .i64 1, .string ⟨#[]⟩, .slice none 0 0, .int .i64 2, .int .i64 0, .string ⟨#[121]⟩, .slice none 0 0, .int .i64 3, .int .i64 1, .string ⟨#[]⟩, .slice none 0 0] 30)).alloc (.cells #[.int .i64 3, .slice (some ⟨w5.heap.size, 0, none⟩) 3 3] 24)
  have BB := box_lit (w := w5) (n := 3) (f := 3) (l := [⟨1, 1, ⟨#[]⟩, []⟩, ⟨2, 0, ⟨#[121]⟩, []⟩, ⟨3, 1, ⟨#[]⟩, []⟩]) rfl rfl (fits_lit (by kernel_rfl)) (by decide)
  have hbv5 : Below w.heap.size w ((w5.alloc (.cells #[.int .i64 1, .int .i64 1, .string ⟨#[]⟩, .slice none 0 0, .int .i64 2, .int .i64 0, .string ⟨#[121]⟩, .slice none 0 0, .int .i64 3, .int .i64 1, .string ⟨#[]⟩, .slice none 0 0] 30)).alloc (.cells #[.int .i64 3, .slice (some ⟨w5.heap.size, 0, none⟩) 3 3] 24)) := (hbw5.alloc hbw5.size _).alloc (by have := hbw5.size; simp; omega) _
  have kk := compose_any 3 3 _ _ _ _ _ _ _ BA.rd BB.rd (hT.below hbv5)
  dsimp only at f0 f1 kk
  rw [E1.out] at kk
  have HBA := Lib.hid BA
  have HBB := Lib.hid BB
  clear hb5 BA5 BA BB hbw4 hbw5 cP cK cX
  go_wp2_with fail
  with_reducible refine kk.mono ?_
  rintro e w6 ⟨v6, rfl, hbx, hr6⟩
  obtain ⟨S6, hrd6⟩ : ∃ S, Rd KO S w6 v6 [⟨2, 0, ⟨#[120, 121]⟩, []⟩, ⟨3, 2, ⟨#[]⟩, []⟩] := ⟨_, hr6.rd⟩
  obtain ⟨A6, c6, rfl, hA6, hs6⟩ := hr6.rd
  dsimp only
  have hbw6 : Below w.heap.size w w6 := hbv5.trans (hbx.mono hbv5.size)
  have BA := (HBA.out.next hbx).alloc (.cells #[.int .i64 3, .slice A6 2 c6] 24)
  have BB := (HBB.out.next hbx).alloc (.cells #[.int .i64 3, .slice A6 2 c6] 24)
  simp only [List.length_cons, List.length_nil, Nat.zero_add, Nat.reduceAdd] at hrd6
  have BC := BoxC.new (c := ⟨3, [⟨2, 0, ⟨#[120, 121]⟩, []⟩, ⟨3, 2, ⟨#[]⟩, []⟩]⟩) hrd6
  have hbv6 : Below w.heap.size w (w6.alloc (.cells #[.int .i64 3, .slice A6 2 c6] 24)) := hbw6.alloc hbw6.size _
  clear kk hbx f0 f1 HBA HBB hr6 hs6 hA6
  have BA0 := BA.c0
  have BA1 := BA.c1
  dsimp only at BA0 BA1
  have kk := compose_any 3 2 _ (.slice none 0 0) _ [] _ (fun _ => True) _ BA.rd (Rd.nil _ _ _ _ _ (by simp)) (hT.below hbv6)
  have HBA := Lib.hid BA
  have HBB := Lib.hid BB
  have HBC := Lib.hid BC
  clear BA BB BC
  rw [E2.out] at kk
  go_wp2_with fail
  with_reducible refine kk.mono ?_
  rintro e w7 ⟨v7, rfl, hbx, hr7⟩
  obtain ⟨S7, hrd7⟩ : ∃ S, Rd KO S w7 v7 [] := ⟨_, hr7.rd⟩
  obtain ⟨A7, c7, rfl, hA7, hs7⟩ := hr7.rd
  dsimp only
  simp only [List.length_nil] at hrd7 ⊢
  have hbw7 : Below w.heap.size w w7 := hbv6.trans (hbx.mono hbv6.size)
  have BA := (HBA.out.next hbx).alloc (.cells #[.int .i64 0, .slice A7 0 c7] 24)
  have BB := (HBB.out.next hbx).alloc (.cells #[.int .i64 0, .slice A7 0 c7] 24)
  have BC := (HBC.out.next hbx).alloc (.cells #[.int .i64 0, .slice A7 0 c7] 24)
  have BD := BoxC.new (c := ⟨0, []⟩) hrd7
  have hbv7 : Below w.heap.size w (w7.alloc (.cells #[.int .i64 0, .slice A7 0 c7] 24)) := hbw7.alloc hbw7.size _
  clear kk hbx BA0 BA1 HBA HBB HBC hr7 hs7 hA7
  obtain ⟨A9, c9, e9, _, hs9⟩ := BC.rd
  injection e9 with e9 _ e9'
  subst e9 e9'
  obtain ⟨b1, o1, va1, ea, _, hlt1, _, _, x0, _, _, _⟩ := hs9.op 0 (by simp)
  obtain ⟨b2, o2, va2, eb, _, hlt2, _, x1, _, _, _, _⟩ := hs9.op 1 (by simp)
  subst ea
  injection eb with eb
  injection eb with eb1 eb2
  subst eb1 eb2
  simp only [List.getElem_cons_succ, List.getElem_cons_zero, Nat.zero_mul, Nat.add_zero, Nat.one_mul] at x0 x1
  have c0 := BC.c0
  have c1 := BC.c1
  clear BA BB BC BD
  trace_state
  go_wp2_with fail
  go_ret
  exact ⟨rfl, hbv7⟩
end Go.Proofs.YtaemajcpgmaapaaDoor
