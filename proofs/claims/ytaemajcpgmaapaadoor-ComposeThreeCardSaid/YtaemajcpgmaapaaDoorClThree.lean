/- blotterlaw06.ComposeThree answers true and leaves what it is given alone, for every argument that reads; two tables of unicode/utf8 begin as Go's library lays them. -/
import Derived.Test.YtaemajcpgmaapaaDoorPkM
import Derived.Test.YtaemajcpgmaapaaDoorPkO
import Derived.Test.YtaemajcpgmaapaaDoorPkN
namespace Go.Proofs.YtaemajcpgmaapaaDoor
open Go.RowKit

set_option maxRecDepth 100000 in
set_option maxHeartbeats 4000000 in
theorem three_any (fa : Int) (va : Value) (la : List Op) (Sa : Nat → Prop) (fb : Int) (vb : Value) (lb : List Op) (Sb : Nat → Prop) (fc : Int) (vc : Value) (lc : List Op) (Sc : Nat → Prop) (w : World) (ha : Rd KO Sa w va la) (hb : Rd KO Sb w vb lb) (hc : Rd KO Sc w vc lc) (hT : Tabs w) :
    Calls Tryd.prog 13 #[.agg #[.int .i64 fa, va], .agg #[.int .i64 fb, vb], .agg #[.int .i64 fc, vc]] w fun e w' => e = .returned (.bool true) ∧ Below w.heap.size w w' := by
  have hba : Below w.heap.size w (((w.alloc (.cells #[.int .i64 fa, va] 24)).alloc (.cells #[.int .i64 fb, vb] 24)).alloc (.cells #[.int .i64 fc, vc] 24)) := ((((((Below.refl _ _).alloc (by simp <;> omega) _)).alloc (by simp <;> omega) _)).alloc (by simp <;> omega) _)
  have B1 : BoxC (((w.alloc (.cells #[.int .i64 fa, va] 24)).alloc (.cells #[.int .i64 fb, vb] 24)).alloc (.cells #[.int .i64 fc, vc] 24)) (w.heap.size) ⟨fa, la⟩ va Sa := by
    have q := BoxC.new (w := w) (c := ⟨fa, la⟩) ha
    have q := q.alloc (.cells #[.int .i64 fb, vb] 24)
    have q := q.alloc (.cells #[.int .i64 fc, vc] 24)
    simpa using q
  have B2 : BoxC (((w.alloc (.cells #[.int .i64 fa, va] 24)).alloc (.cells #[.int .i64 fb, vb] 24)).alloc (.cells #[.int .i64 fc, vc] 24)) (w.heap.size + 1) ⟨fb, lb⟩ vb Sb := by
    have q := BoxC.new (w := (w.alloc (.cells #[.int .i64 fa, va] 24))) (c := ⟨fb, lb⟩) (hb.below ((Below.refl _ _).alloc (by simp <;> omega) _))
    have q := q.alloc (.cells #[.int .i64 fc, vc] 24)
    simpa using q
  have B3 : BoxC (((w.alloc (.cells #[.int .i64 fa, va] 24)).alloc (.cells #[.int .i64 fb, vb] 24)).alloc (.cells #[.int .i64 fc, vc] 24)) (w.heap.size + 1 + 1) ⟨fc, lc⟩ vc Sc := by
    have q := BoxC.new (w := ((w.alloc (.cells #[.int .i64 fa, va] 24)).alloc (.cells #[.int .i64 fb, vb] 24))) (c := ⟨fc, lc⟩) (hc.below (((Below.refl _ _).alloc (by simp <;> omega) _).alloc (by simp <;> omega) _))
    simpa using q
  have cw := awake6 _ (hT.below hba)
  have cF1 := fun W h1 h2 h3 => compose_any fa fb va vb la lb Sa Sb W h1 h2 h3
  have cF2 := fun W h1 h2 h3 => compose_any fb fc vb vc lb lc Sb Sc W h1 h2 h3
  have cC1 := fun f v l S W h1 h2 h3 => compose_any f fc v vc l lc S Sc W h1 h2 h3
  have cC2 := fun f v l S W h1 h2 h3 => compose_any fa f va v la l Sa S W h1 h2 h3
  have cA := fun v S W h => all_any fa v [⟨fa, la⟩, ⟨fb, lb⟩, ⟨fc, lc⟩] S W h
  have P0 : Hid ((cmpR ⟨fa, la⟩ ⟨fb, lb⟩).2 = 0 → (cmpR ⟨fb, lb⟩ ⟨fc, lc⟩).2 = 0 → (cmpR (cmpR ⟨fa, la⟩ ⟨fb, lb⟩).1 ⟨fc, lc⟩).2 ≠ 31 ∧ (cmpR ⟨fa, la⟩ (cmpR ⟨fb, lb⟩ ⟨fc, lc⟩).1).2 ≠ 31 ∧
      ((cmpR (cmpR ⟨fa, la⟩ ⟨fb, lb⟩).1 ⟨fc, lc⟩).2 = 0 → (cmpR ⟨fa, la⟩ (cmpR ⟨fb, lb⟩ ⟨fc, lc⟩).1).2 = 0 → (cmpR (cmpR ⟨fa, la⟩ ⟨fb, lb⟩).1 ⟨fc, lc⟩).1 = (cmpR ⟨fa, la⟩ (cmpR ⟨fb, lb⟩ ⟨fc, lc⟩).1).1)) := cmp_three
  have P9 : Hid ((cmpR ⟨fa, la⟩ ⟨fb, lb⟩).2 = 0 → allR fa [⟨fa, la⟩, ⟨fb, lb⟩, ⟨fc, lc⟩] = cmpR (cmpR ⟨fa, la⟩ ⟨fb, lb⟩).1 ⟨fc, lc⟩) := all_three (a := ⟨fa, la⟩)
  change ∀ W, _ → _ → _ → Calls _ _ _ _ (ChQ _ (cmpR ⟨fa, la⟩ ⟨fb, lb⟩)) at cF1
  change ∀ W, _ → _ → _ → Calls _ _ _ _ (ChQ _ (cmpR ⟨fb, lb⟩ ⟨fc, lc⟩)) at cF2
  generalize cmpR ⟨fa, la⟩ ⟨fb, lb⟩ = X at *
  generalize cmpR ⟨fb, lb⟩ ⟨fc, lc⟩ = Y at *
  obtain ⟨⟨xf, xo⟩, xe⟩ := X
  obtain ⟨⟨yf, yo⟩, ye⟩ := Y
  dsimp only at P0 P9
  obtain ⟨Aa, ca, rfl, hAa, hra⟩ := ha
  obtain ⟨Ab, cb, rfl, hAb, hrb⟩ := hb
  obtain ⟨Ac, cc, rfl, hAc, hrc⟩ := hc
  have HB1 := Lib.hid B1
  have HB2 := Lib.hid B2
  have HB3 := Lib.hid B3
  have HBA := Lib.hid hba
  have kk := cw
  clear cw hba B1 hra hAa B2 hrb hAb B3 hrc hAc
  go_enter Tryd.func13, Tryd.ntmps13
  go_wp2_with fail
  with_reducible refine kk.mono ?_
  rintro e w1 ⟨rfl, hbx⟩
  have hbw1 : Below w.heap.size w w1 := HBA.out.trans (hbx.mono HBA.out.size)
  have B1 := HB1.out.next hbx
  have B2 := HB2.out.next hbx
  have B3 := HB3.out.next hbx
  clear kk hbx HB1 HB2 HB3
  have B10 := B1.c0
  have B11 := B1.c1
  have B20 := B2.c0
  have B21 := B2.c1
  dsimp only at B10 B11 B20 B21
  have kk := cF1 _ B1.rd B2.rd (hT.below hbw1)
  have HB1 := Lib.hid B1
  have HB2 := Lib.hid B2
  have HB3 := Lib.hid B3
  clear B1 B2 B3
  go_wp2_with fail
  with_reducible refine kk.mono ?_
  rintro e w2 ⟨v2, rfl, hbx, hr2⟩
  obtain ⟨S2, hrd2⟩ : ∃ S, Rd KO S w2 v2 xo := ⟨_, hr2.rd⟩
  obtain ⟨A2, c2, rfl, hA2, hs2⟩ := hr2.rd
  dsimp only
  have hbw2 : Below w.heap.size w w2 := hbw1.trans (hbx.mono hbw1.size)
  have B1 := (HB1.out.next hbx).alloc (.cells #[.int .i64 xf, .slice A2 xo.length c2] 24)
  have B2 := (HB2.out.next hbx).alloc (.cells #[.int .i64 xf, .slice A2 xo.length c2] 24)
  have B3 := (HB3.out.next hbx).alloc (.cells #[.int .i64 xf, .slice A2 xo.length c2] 24)
  have B4 := BoxC.new (c := ⟨xf, xo⟩) hrd2
  have hbv2 : Below w.heap.size w (w2.alloc (.cells #[.int .i64 xf, .slice A2 xo.length c2] 24)) := hbw2.alloc hbw2.size _
  clear kk hbx B10 B11 B20 B21 HB1 HB2 HB3 hr2 hs2 hA2
  have B20 := B2.c0
  have B21 := B2.c1
  have B30 := B3.c0
  have B31 := B3.c1
  dsimp only at B20 B21 B30 B31
  have kk := cF2 _ B2.rd B3.rd (hT.below hbv2)
  have HB1 := Lib.hid B1
  have HB2 := Lib.hid B2
  have HB3 := Lib.hid B3
  have HB4 := Lib.hid B4
  clear B1 B2 B3 B4
  go_wp2_with fail
  with_reducible refine kk.mono ?_
  rintro e w3 ⟨v3, rfl, hbx, hr3⟩
  obtain ⟨S3, hrd3⟩ : ∃ S, Rd KO S w3 v3 yo := ⟨_, hr3.rd⟩
  obtain ⟨A3, c3, rfl, hA3, hs3⟩ := hr3.rd
  dsimp only
  have hbw3 : Below w.heap.size w w3 := hbv2.trans (hbx.mono hbv2.size)
  have B1 := (HB1.out.next hbx).alloc (.cells #[.int .i64 yf, .slice A3 yo.length c3] 24)
  have B2 := (HB2.out.next hbx).alloc (.cells #[.int .i64 yf, .slice A3 yo.length c3] 24)
  have B3 := (HB3.out.next hbx).alloc (.cells #[.int .i64 yf, .slice A3 yo.length c3] 24)
  have B4 := (HB4.out.next hbx).alloc (.cells #[.int .i64 yf, .slice A3 yo.length c3] 24)
  have B5 := BoxC.new (c := ⟨yf, yo⟩) hrd3
  have hbv3 : Below w.heap.size w (w3.alloc (.cells #[.int .i64 yf, .slice A3 yo.length c3] 24)) := hbw3.alloc hbw3.size _
  clear kk hbx B20 B21 B30 B31 HB1 HB2 HB3 HB4 hr3 hs3 hA3
  by_cases he : xe = 0
  · subst he
    by_cases hf : ye = 0
    · subst hf
      have P1 := P0.out rfl rfl
      have P2 := P9.out rfl
      have kC1 := cC1 xf (.slice A2 xo.length c2) xo S2
      have kC2 := cC2 yf (.slice A3 yo.length c3) yo S3
      change ∀ W, _ → _ → _ → Calls _ _ _ _ (ChQ _ (cmpR ⟨xf, xo⟩ ⟨fc, lc⟩)) at kC1
      change ∀ W, _ → _ → _ → Calls _ _ _ _ (ChQ _ (cmpR ⟨fa, la⟩ ⟨yf, yo⟩)) at kC2
      change ∀ v S W, _ → _ → Calls _ _ _ _ (ChQ _ (allR fa [⟨fa, la⟩, ⟨fb, lb⟩, ⟨fc, lc⟩])) at cA
      rw [P2] at cA
      generalize cmpR ⟨xf, xo⟩ ⟨fc, lc⟩ = Z at *
      generalize cmpR ⟨fa, la⟩ ⟨yf, yo⟩ = U at *
      obtain ⟨⟨zf, zo⟩, ze⟩ := Z
      obtain ⟨⟨uf, uo⟩, ue⟩ := U
      dsimp only at P1
      obtain ⟨p1, p2, p3⟩ := P1
      have hp1 : (ze != 31) = true := by simp [p1]
      have hp2 : (ue != 31) = true := by simp [p2]
      have hp3 : (ze != ze) = false := by simp
      have HP3 := Lib.hid p3
      have HP1 := Lib.hid p1
      have HP2 := Lib.hid p2
      clear p1 p2 p3 P0 P9 P2 cC1 cC2 cF1 cF2 hrd2 hrd3
      have B30 := B3.c0
      have B31 := B3.c1
      have B40 := B4.c0
      have B41 := B4.c1
      dsimp only at B30 B31 B40 B41
      have kk := kC1 _ B4.rd B3.rd (hT.below hbv3)
      have HB1 := Lib.hid B1
      have HB2 := Lib.hid B2
      have HB3 := Lib.hid B3
      have HB5 := Lib.hid B5
      clear B1 B2 B3 B4 B5
      go_wp2_with fail
      with_reducible refine kk.mono ?_
      rintro e w4 ⟨v4, rfl, hbx, hr4⟩
      obtain ⟨S4, hrd4⟩ : ∃ S, Rd KO S w4 v4 zo := ⟨_, hr4.rd⟩
      obtain ⟨A4, c4, rfl, hA4, hs4⟩ := hr4.rd
      dsimp only
      have hbw4 : Below w.heap.size w w4 := hbv3.trans (hbx.mono hbv3.size)
      have B1 := (HB1.out.next hbx).alloc (.cells #[.int .i64 zf, .slice A4 zo.length c4] 24)
      have B2 := (HB2.out.next hbx).alloc (.cells #[.int .i64 zf, .slice A4 zo.length c4] 24)
      have B3 := (HB3.out.next hbx).alloc (.cells #[.int .i64 zf, .slice A4 zo.length c4] 24)
      have B5 := (HB5.out.next hbx).alloc (.cells #[.int .i64 zf, .slice A4 zo.length c4] 24)
      have B6 := BoxC.new (c := ⟨zf, zo⟩) hrd4
      have hbv4 : Below w.heap.size w (w4.alloc (.cells #[.int .i64 zf, .slice A4 zo.length c4] 24)) := hbw4.alloc hbw4.size _
      clear kk hbx B30 B31 B40 B41 HB1 HB2 HB3 HB5 hr4 hs4 hA4
      have B10 := B1.c0
      have B11 := B1.c1
      have B50 := B5.c0
      have B51 := B5.c1
      dsimp only at B10 B11 B50 B51
      have kk := kC2 _ B1.rd B5.rd (hT.below hbv4)
      have HB1 := Lib.hid B1
      have HB2 := Lib.hid B2
      have HB3 := Lib.hid B3
      have HB6 := Lib.hid B6
      clear B1 B2 B3 B5 B6
      go_wp2_with fail
      with_reducible refine kk.mono ?_
      rintro e w5 ⟨v5, rfl, hbx, hr5⟩
      obtain ⟨S5, hrd5⟩ : ∃ S, Rd KO S w5 v5 uo := ⟨_, hr5.rd⟩
      obtain ⟨A5, c5, rfl, hA5, hs5⟩ := hr5.rd
      dsimp only
      have hbw5 : Below w.heap.size w w5 := hbv4.trans (hbx.mono hbv4.size)
      have B1 := (HB1.out.next hbx).alloc (.cells #[.int .i64 uf, .slice A5 uo.length c5] 24)
      have B2 := (HB2.out.next hbx).alloc (.cells #[.int .i64 uf, .slice A5 uo.length c5] 24)
      have B3 := (HB3.out.next hbx).alloc (.cells #[.int .i64 uf, .slice A5 uo.length c5] 24)
      have B6 := (HB6.out.next hbx).alloc (.cells #[.int .i64 uf, .slice A5 uo.length c5] 24)
      have B7 := BoxC.new (c := ⟨uf, uo⟩) hrd5
      have hbv5 : Below w.heap.size w (w5.alloc (.cells #[.int .i64 uf, .slice A5 uo.length c5] 24)) := hbw5.alloc hbw5.size _
      clear kk hbx B10 B11 B50 B51 HB1 HB2 HB3 HB6 hr5 hs5 hA5
      have B10 := B1.c0
      have B11 := B1.c1
      have B20 := B2.c0
      have B21 := B2.c1
      have B30 := B3.c0
      have B31 := B3.c1
      dsimp only at B10 B11 B20 B21 B30 B31
      have hba6 : Below ((w5.alloc (.cells #[.int .i64 uf, .slice A5 uo.length c5] 24))).heap.size (w5.alloc (.cells #[.int .i64 uf, .slice A5 uo.length c5] 24)) ((w5.alloc (.cells #[.int .i64 uf, .slice A5 uo.length c5] 24)).alloc (.cells #[.int .i64 fa, .slice Aa la.length ca, .int .i64 fb, .slice Ab lb.length cb, .int .i64 fc, .slice Ac lc.length cc] 24)) := (Below.refl _ _).alloc (Nat.le_refl _) _
      have hbv6 : Below w.heap.size w ((w5.alloc (.cells #[.int .i64 uf, .slice A5 uo.length c5] 24)).alloc (.cells #[.int .i64 fa, .slice Aa la.length ca, .int .i64 fb, .slice Ab lb.length cb, .int .i64 fc, .slice Ac lc.length cc] 24)) := hbv5.alloc hbv5.size _
      have LB1 := B1.next hba6
      have LB2 := B2.next hba6
      have LB3 := B3.next hba6
      have LB6 := B6.next hba6
      have LB7 := B7.next hba6
      have hrow : Rd KC (fun _ => True) ((w5.alloc (.cells #[.int .i64 uf, .slice A5 uo.length c5] 24)).alloc (.cells #[.int .i64 fa, .slice Aa la.length ca, .int .i64 fb, .slice Ab lb.length cb, .int .i64 fc, .slice Ac lc.length cc] 24)) (.slice (some ⟨((w5.alloc (.cells #[.int .i64 uf, .slice A5 uo.length c5] 24))).heap.size, 0, none⟩) 3 3) (List.map (fun p : Change × Value => p.1) [(⟨fa, la⟩, .slice Aa la.length ca), (⟨fb, lb⟩, .slice Ab lb.length cb), (⟨fc, lc⟩, .slice Ac lc.length cc)]) := by
        refine rd_chgs (ps := [(⟨fa, la⟩, .slice Aa la.length ca), (⟨fb, lb⟩, .slice Ab lb.length cb), (⟨fc, lc⟩, .slice Ac lc.length cc)]) (heap_alloc_new (w5.alloc (.cells #[.int .i64 uf, .slice A5 uo.length c5] 24)) (.cells #[.int .i64 fa, .slice Aa la.length ca, .int .i64 fb, .slice Ab lb.length cb, .int .i64 fc, .slice Ac lc.length cc] 24)) rfl rfl (by decide) fun p hp => ?_
        simp only [List.mem_cons, List.mem_nil_iff, or_false] at hp
        rcases hp with rfl | rfl | rfl
        · exact ⟨_, LB1.rd⟩
        · exact ⟨_, LB2.rd⟩
        · exact ⟨_, LB3.rd⟩
      simp only [List.map_cons, List.map_nil, World.size_alloc] at hrow
      have kk := cA _ _ _ hrow (hT.below hbv6)
      have HB1 := Lib.hid LB1
      have HB2 := Lib.hid LB2
      have HB3 := Lib.hid LB3
      have HB6 := Lib.hid LB6
      have HB7 := Lib.hid LB7
      clear hrow B1 B2 B3 B6 B7 LB1 LB2 LB3 LB6 LB7 hba6
      go_wp2_with fail
      with_reducible refine kk.mono ?_
      rintro e w7 ⟨v7, rfl, hbx, hr7⟩
      obtain ⟨S7, hrd7⟩ : ∃ S, Rd KO S w7 v7 zo := ⟨_, hr7.rd⟩
      obtain ⟨A7, c7, rfl, hA7, hs7⟩ := hr7.rd
      dsimp only
      have hbw7 : Below w.heap.size w w7 := hbv6.trans (hbx.mono hbv6.size)
      have B1 := (HB1.out.next hbx).alloc (.cells #[.int .i64 zf, .slice A7 zo.length c7] 24)
      have B2 := (HB2.out.next hbx).alloc (.cells #[.int .i64 zf, .slice A7 zo.length c7] 24)
      have B3 := (HB3.out.next hbx).alloc (.cells #[.int .i64 zf, .slice A7 zo.length c7] 24)
      have B6 := (HB6.out.next hbx).alloc (.cells #[.int .i64 zf, .slice A7 zo.length c7] 24)
      have B7 := (HB7.out.next hbx).alloc (.cells #[.int .i64 zf, .slice A7 zo.length c7] 24)
      have B8 := BoxC.new (c := ⟨zf, zo⟩) hrd7
      have hbv7 : Below w.heap.size w (w7.alloc (.cells #[.int .i64 zf, .slice A7 zo.length c7] 24)) := hbw7.alloc hbw7.size _
      clear kk hbx B10 B11 B20 B21 B30 B31 HB1 HB2 HB3 HB6 HB7 hr7 hs7 hA7
      by_cases hz : ze = 0
      · subst hz
        have kS := fun W h1 h2 => same_ch zf zf (.slice A4 zo.length c4) (.slice A7 zo.length c7) zo zo S4 S7 W h1 h2
        rw [chEq_self] at kS
        have B60 := B6.c0
        have B61 := B6.c1
        have B80 := B8.c0
        have B81 := B8.c1
        dsimp only at B60 B61 B80 B81
        have kk := kS _ B6.rd B8.rd
        have HB6 := Lib.hid B6
        have HB7 := Lib.hid B7
        clear B1 B2 B3 B6 B7 B8
        go_wp2_with fail
        with_reducible refine kk.mono ?_
        rintro e w8 ⟨rfl, hbx⟩
        have hbw8 : Below w.heap.size w w8 := hbv7.trans (hbx.mono hbv7.size)
        have B6 := HB6.out.next hbx
        have B7 := HB7.out.next hbx
        clear kk hbx B60 B61 B80 B81 HB6 HB7
        by_cases hu : ue = 0
        · subst hu
          have e1 := HP3.out (by simp) rfl
          injection e1 with e1 e2
          subst e1 e2
          have kS2 := fun W h1 h2 => same_ch zf zf (.slice A4 zo.length c4) (.slice A5 zo.length c5) zo zo S4 S5 W h1 h2
          rw [chEq_self] at kS2
          clear HP3 hrd4 hrd5 hrd7 kC1 kC2 cA kS
          have B60 := B6.c0
          have B61 := B6.c1
          have B70 := B7.c0
          have B71 := B7.c1
          dsimp only at B60 B61 B70 B71
          have kk := kS2 _ B6.rd B7.rd
          clear B6 B7
          go_wp2_with fail
          with_reducible refine kk.mono ?_
          rintro e w9 ⟨rfl, hbx⟩
          have hbw9 : Below w.heap.size w w9 := hbw8.trans (hbx.mono hbw8.size)
          clear kk hbx B60 B61 B70 B71
          go_wp2_with fail
          go_ret
          exact ⟨rfl, hbw9⟩
        · have hub : (ue != 0) = true := by simp [hu]
          have HU := Lib.hid hu
          clear hu HP3 hrd4 hrd5 hrd7 kC1 kC2 cA kS
          clear B6 B7
          go_wp2_with fail
          go_ret
          exact ⟨rfl, hbw8⟩
      · have hzb : (ze != 0) = true := by simp [hz]
        have hzc : (ze == 0) = false := by simp [hz]
        have HZ := Lib.hid hz
        clear hz HP3 hrd4 hrd5 hrd7 kC1 kC2 cA
        clear B1 B2 B3 B6 B7 B8
        go_wp2_with fail
        go_ret
        exact ⟨rfl, hbv7⟩
    · have hfb : (ye != 0) = true := by simp [hf]
      have HF := Lib.hid hf
      clear hf P0 P9
      clear B1 B2 B3 B4 B5
      go_wp2_with fail
      go_ret
      exact ⟨rfl, hbv3⟩
  · have heb : (xe != 0) = true := by simp [he]
    have HE := Lib.hid he
    clear he P0 P9
    clear B1 B2 B3 B4 B5
    go_wp2_with fail
    go_ret
    exact ⟨rfl, hbv3⟩
end Go.Proofs.YtaemajcpgmaapaaDoor

namespace Go.Proofs.YtaemajcpgmaapaaDoor.composeThree
open Go.ChangeShapes Go.WideShapes Go.ChangeAt Go.RowKit

theorem pars : Tryd.f13.params.toList = [24, 24, 24] := congrArg Array.toList Tryd.params13
theorem res : Tryd.f13.resultTypes = #[4] := by kernel_rfl
theorem readable : ∀ t ∈ Tryd.f13.params.toList, Tryd.prog.readableRec t = true ∧ t < Tryd.prog.types.size := by
  rw [pars]
  intro t ht
  simp only [List.mem_cons, List.mem_nil_iff, or_false] at ht
  rcases ht with rfl | rfl | rfl <;> exact ⟨by kernel_rfl, of_decide_eq_true (by kernel_rfl)⟩
set_option maxRecDepth 100000 in
/-- The walk, said of the arguments as the form reads them. -/
theorem contract (H : Type) (enc : TypeId × Value → H) (W : World) (base : Nat) (args : Array Value) (ds gs : List (DataW H)) (before : List MemPlace)
    (hval : ∀ (j : Nat) t v, Tryd.f13.params[j]? = some t → args[j]? = some v → Value.okWide Tryd.prog W .any base t v)
    (hW : DataW.Whole enc Tryd.prog Tryd.f13.params.toList Rows.composeThreeSpec.vars false W args.toList ds gs before)
    (hz : (DataW.weightsEach Tryd.prog (Tryd.f13.params.toList ++ (OpenSpec.ofChange Rows.composeThreeSpec).bare.plain.varTypes Tryd.prog) (ds ++ gs)).all (· ≤ reachBytes) = true)
    (hL : laidMetH Tryd.prog twoLaid W) : Calls Tryd.prog 13 args W fun e W' => ∃ v, e = .returned v ∧ Rows.composeThreeSpec.post enc Tryd.prog Tryd.f13 false true false false W args v W' := by
  have hW' := hW
  obtain ⟨p, q, hA0, hV, rfl, _, _⟩ := hW
  obtain ⟨rfl, rfl⟩ := trodVars_none hV
  have hA : DataW.TrodAll enc Tryd.prog W 0 (fun _ => true) true Tryd.f13.params.toList args.toList ds p := hA0
  rw [pars] at hA
  have hz2 : (DataW.weightsEach Tryd.prog (Tryd.f13.params.toList ++ []) (ds ++ [])).all (· ≤ reachBytes) = true := hz
  rw [List.append_nil, List.append_nil, pars] at hz2
  rw [Tryd.params13] at hval
  obtain ⟨v0, vs0, d0, ds0, p0, q0, hargs, rfl, rfl, h0, r0⟩ := trodAll_cons hA
  obtain ⟨v1, vs1, d1, ds1, p1, q1, rfl, rfl, rfl, h1, r1⟩ := trodAll_cons r0
  obtain ⟨v2, vs2, d2, ds2, p2, q2, rfl, rfl, rfl, h2, r2⟩ := trodAll_cons r1
  obtain ⟨rfl, rfl, rfl⟩ := trodAll_nil r2
  obtain rfl : args = #[v0, v1, v2] := by cases args; simp_all
  obtain ⟨f0, vo0, l0, rfl, rd0⟩ := open_change (hval 0 24 v0 rfl rfl) h0 (wb_of hz2 0 _ _ rfl rfl)
  obtain ⟨f1, vo1, l1, rfl, rd1⟩ := open_change (hval 1 24 v1 rfl rfl) h1 (wb_of hz2 1 _ _ rfl rfl)
  obtain ⟨f2, vo2, l2, rfl, rd2⟩ := open_change (hval 2 24 v2 rfl rfl) h2 (wb_of hz2 2 _ _ rfl rfl)
  refine (three_any f0 vo0 l0 _ f1 vo1 l1 _ f2 vo2 l2 _ W rd0 rd1 rd2 (tabs_of_laid hL)).mono fun e W' ⟨he, hg⟩ => ?_
  subst he
  exact ⟨_, rfl, post_true rfl res readable hW' rfl hg⟩

theorem reads (os : Os) {H : Type} (enc : TypeId × Value → H) : ∃ places, DataW.whole enc Tryd.prog ((laidWorld os).forCall (fun _ _ => 0) ⟨#[], #[.agg #[.int .i64 0, .slice none 0 0], .agg #[.int .i64 0, .slice none 0 0], .agg #[.int .i64 0, .slice none 0 0]], []⟩).memory Tryd.f13.params.toList Rows.composeThreeSpec.vars false (show Array Value from #[.agg #[.int .i64 0, .slice none 0 0], .agg #[.int .i64 0, .slice none 0 0], .agg #[.int .i64 0, .slice none 0 0]]).toList 8 = some ([.agg [.lit (.int .i64 0), .nil], .agg [.lit (.int .i64 0), .nil], .agg [.lit (.int .i64 0), .nil]], [], places) :=
  ⟨[], by kernel_rfl⟩
set_option maxRecDepth 100000 in
theorem lifted (os : Os) (started : os.Started) (H : Type) (enc : TypeId × Value → H) (F : Stop.Interp) :
    ReturnsInHanded {} Tryd.checked os 13 .any ((OpenSpec.ofChange Rows.composeThreeSpec).preRow enc Tryd.prog Tryd.f13 Rows.composeThreeRow.domain false Rows.composeThreeRow.laid) (((OpenSpec.ofChange Rows.composeThreeSpec).at F).post enc Tryd.prog Tryd.f13 false true false false) := by
  obtain ⟨places, hx⟩ := reads os enc
  refine returnsInHanded_of_row (C := Tryd.checked) (s := (OpenSpec.ofChange Rows.composeThreeSpec)) own started (by kernel_rfl) Tryd.func13
    (witness_row_at (enc := enc) (C := Tryd.checked) false (laidWorld os) #[.agg #[.int .i64 0, .slice none 0 0], .agg #[.int .i64 0, .slice none 0 0], .agg #[.int .i64 0, .slice none 0 0]] rfl (by kernel_rfl) (by kernel_rfl) (by kernel_rfl)
      (OpenSpec.preRow_of_cond 8 hx (by kernel_rfl) (fun k hk => by cases hk) (by kernel_rfl) (laid_met os _))) ?_
  intro W base args ds gs before hval hW _ _ hz hL _ _
  exact contract H enc W base args ds gs before hval hW hz hL
theorem wf0 : Rows.composeThreeRow.wf (OpenSpec.ofChange (OpenSpec.ofChange Rows.composeThreeSpec).bare) = true := by kernel_rfl
theorem in0 : (Rows.composeThreeRow.inPlace == Tryd.prog.inPlace 13) = true := by kernel_rfl
theorem un0 : (Rows.composeThreeRow.unfollowed == Tryd.prog.unfollowed 13) = true := by kernel_rfl
theorem rec0 : (Rows.composeThreeRow.recurses == Tryd.prog.recurses 13) = true := by kernel_rfl
theorem var0 : (Rows.composeThreeRow.named == Tryd.prog.varsNamed 13) = true := by kernel_rfl
theorem joined0 : joinedFacts Tryd.prog 13 Tryd.f13 (OpenSpec.ofChange Rows.composeThreeSpec).bare Rows.composeThreeRow = true :=
  joined wf0 in0 un0 rec0 var0 (by kernel_rfl) rfl rfl rfl rfl rfl (by kernel_rfl)
theorem inst0 : Tryd.f13.isInstance Tryd.prog Rows.composeThreeRow.origin Rows.composeThreeRow.targs := of_decide_eq_true (by kernel_rfl)
theorem wrap0 : Tryd.f13.isWrapper Tryd.prog Rows.composeThreeRow.wrapper Rows.composeThreeRow.mainSum := by
  unfold Func.isWrapper
  rw [if_neg (of_decide_eq_false (by kernel_rfl))]
  exact ⟨rfl, rfl⟩
theorem name0 : Tryd.prog.funcNamed "blotter/blotterlaw06.ComposeThree" = some 13 := by kernel_rfl
theorem said : Rows.ComposeThreeSaid :=
  OpenClaim.holds_of_cond 13 Tryd.f13 rfl rfl rfl rfl rfl rfl rfl ⟨rfl, rfl, rfl, rfl, rfl⟩ rfl rfl rfl rfl rfl name0 Tryd.func13 joined0 inst0 wrap0
    (fun os started H enc _ F => by rw [OpenClaim.pre_eq_preRow]; exact lifted os started H enc F)
/-- No parameter wants a stand-in; the program's own looks are off. -/
theorem plain (f : FuncId) (fn : Func) (hf : Tryd.pinned.checked.prog.funcNamed "blotter/blotterlaw06.ComposeThree" = some f) (hfn : Tryd.pinned.checked.prog.funcs[f]? = some fn) :
    false = Tryd.pinned.checked.prog.looks [] ∧ ∀ (j : Nat) t, fn.params[j]? = some t → Tryd.pinned.checked.prog.wantsStandIn t = false := by
  obtain rfl : f = 13 := Option.some.inj (name0.symm.trans hf) |>.symm
  obtain rfl : fn = Tryd.f13 := (Option.some.inj (Tryd.func13.symm.trans hfn)).symm
  refine ⟨looks0.symm, fun j t ht => ?_⟩
  rw [Tryd.params13] at ht
  have hm := Array.mem_of_getElem? ht
  simp only [List.mem_toArray, List.mem_cons, List.mem_nil_iff, or_false] at hm
  rcases hm with rfl | rfl | rfl
  · exact (show Tryd.prog.wantsStandIn 24 = false by kernel_rfl)
  · exact (show Tryd.prog.wantsStandIn 24 = false by kernel_rfl)
  · exact (show Tryd.prog.wantsStandIn 24 = false by kernel_rfl)
/-- THE CARD. -/
theorem text0 : Rows.composeThreeRow.wfByText (OpenSpec.ofChange Rows.composeThreeSpec) = true := by kernel_rfl
theorem goes0 : false = Rows.composeThreeRow.goesBy Tryd.prog := by kernel_rfl
theorem card : Rows.ComposeThreeCardSaid :=
  Claim7.holds_tied_plain_at .later [] _ _ _ _ said (fun _ h => by cases h) text0 (fun _ h => by cases h) composeThree_row_tie rfl ⟨rfl, rfl⟩ main0 rfl plain goes0
end Go.Proofs.YtaemajcpgmaapaaDoor.composeThree
