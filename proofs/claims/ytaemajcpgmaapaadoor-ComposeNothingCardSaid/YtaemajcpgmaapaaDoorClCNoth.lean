/- blotterlaw06.ComposeNothing answers true and leaves what it is given alone, for every argument that reads; two tables of unicode/utf8 begin as Go's library lays them. -/
import Derived.Test.YtaemajcpgmaapaaDoorPkM
import Derived.Test.YtaemajcpgmaapaaDoorPkO
import Derived.Test.YtaemajcpgmaapaaDoorPkN
namespace Go.Proofs.YtaemajcpgmaapaaDoor
open Go.RowKit

set_option maxRecDepth 100000 in
set_option maxHeartbeats 4000000 in
theorem cnothing_any (fa : Int) (va : Value) (la : List Op) (Sa : Nat → Prop) (w : World) (ha : Rd KO Sa w va la) (hT : Tabs w) :
    Calls Tryd.prog 12 #[.agg #[.int .i64 fa, va]] w fun e w' => e = .returned (.bool true) ∧ Below w.heap.size w w' := by
  have hba : Below w.heap.size w (w.alloc (.cells #[.int .i64 fa, va] 24)) := ((Below.refl _ _).alloc (by simp <;> omega) _)
  have B1 : BoxC (w.alloc (.cells #[.int .i64 fa, va] 24)) (w.heap.size) ⟨fa, la⟩ va Sa := by
    have q := BoxC.new (w := w) (c := ⟨fa, la⟩) ha
    simpa using q
  have cw := awake6 _ (hT.below hba)
  have cT := fun W h1 h2 => to_any fa va la Sa W h1 h2
  have cN := fun W h1 h2 => normal_ch fa va la Sa W h1 h2
  change ∀ W, _ → _ → Calls _ _ _ _ (ChQ _ (nmR ⟨fa, la⟩)) at cN
  have cH := fun n W => noth_any n W
  have cF0 := fun W h1 h2 h3 => compose_any fa 0 va (.slice none 0 0) la [] Sa (fun _ => True) W h1 h2 h3
  have cF1 := fun W h1 h2 h3 => compose_any fa fa (.slice none 0 0) va [] la (fun _ => True) Sa W h1 h2 h3
  have cF2 := fun n W h1 h2 h3 => compose_any fa n va (.slice none 0 0) la [] Sa (fun _ => True) W h1 h2 h3
  have cA := fun v S W h => all_any fa v [⟨fa, la⟩] S W h
  obtain ⟨n, er, HR⟩ : ∃ n er, Hid (toR ⟨fa, la⟩ = (n, er)) := ⟨_, _, rfl⟩
  obtain ⟨pf, po, pe, HN⟩ : ∃ pf po pe, Hid (nmR ⟨fa, la⟩ = (⟨pf, po⟩, pe)) := ⟨_, _, _, rfl⟩
  rw [HR.out] at cT
  rw [HN.out] at cN
  have hpe : pe = er := by
    have h1 := HR.out
    have h2 := HN.out
    unfold nmR at h2
    split at h2
    · next h => rw [h1] at h; have := congrArg Prod.snd h2; simp at this h; omega
    · rw [h1] at h2; exact (congrArg Prod.snd h2).symm
  subst hpe
  obtain ⟨Aa, ca, rfl, hAa, hra⟩ := ha
  have HB1 := Lib.hid B1
  have HBA := Lib.hid hba
  have kk := cw
  clear cw hba B1 hra hAa
  go_enter Tryd.func12, Tryd.ntmps12
  go_wp2_with fail
  with_reducible refine kk.mono ?_
  rintro e w1 ⟨rfl, hbx⟩
  have hbw1 : Below w.heap.size w w1 := HBA.out.trans (hbx.mono HBA.out.size)
  have B1 := HB1.out.next hbx
  clear kk hbx HB1
  have B10 := B1.c0
  have B11 := B1.c1
  dsimp only at B10 B11
  have kk := cT _ B1.rd (hT.below hbw1)
  have HB1 := Lib.hid B1
  clear B1
  go_wp2_with fail
  with_reducible refine kk.mono ?_
  rintro e w2 ⟨rfl, hbx⟩
  unfold R2
  dsimp only
  have hbw2 : Below w.heap.size w w2 := hbw1.trans (hbx.mono hbw1.size)
  have B1 := HB1.out.next hbx
  clear kk hbx B10 B11 HB1
  have B10 := B1.c0
  have B11 := B1.c1
  dsimp only at B10 B11
  have kk := cN _ B1.rd (hT.below hbw2)
  have HB1 := Lib.hid B1
  clear B1
  go_wp2_with fail
  with_reducible refine kk.mono ?_
  rintro e w3 ⟨v3, rfl, hbx, hr3⟩
  obtain ⟨S3, hrd3⟩ : ∃ S, Rd KO S w3 v3 po := ⟨_, hr3.rd⟩
  obtain ⟨A3, c3, rfl, hA3, hs3⟩ := hr3.rd
  dsimp only
  have hbw3 : Below w.heap.size w w3 := hbw2.trans (hbx.mono hbw2.size)
  have B1 := (HB1.out.next hbx).alloc (.cells #[.int .i64 pf, .slice A3 po.length c3] 24)
  have B2 := BoxC.new (c := ⟨pf, po⟩) hrd3
  have hbv3 : Below w.heap.size w (w3.alloc (.cells #[.int .i64 pf, .slice A3 po.length c3] 24)) := hbw3.alloc hbw3.size _
  clear kk hbx B10 B11 HB1 hr3 hs3 hA3
  have hpp : (pe != pe) = false := by simp
  by_cases he : pe = 0
  · subst he
    have R : Rt ⟨fa, la⟩ := toR_rt (by rw [HR.out])
    have hn : (toR ⟨fa, la⟩).1 = n := by rw [HR.out]
    have hn0 : 0 ≤ n := by rw [← hn]; have := R.long; omega
    have hn1 : n ≤ 20000 := by rw [← hn, R.to]; exact R.big
    have e1 := cmp_none R
    have e2 := cmp_noneR R
    rw [hn] at e2
    have e3 := R.nm
    rw [HN.out] at e3
    have e4 := nothR_ok R.lo R.hi
    have e5 := nothR_ok hn0 hn1
    have e6 := all_one R
    dsimp only at e1 e2 e3 e4 e6
    injection e3 with e3 _
    injection e3 with e7 e8
    rw [← e8] at e1 e2 e6
    have cF1x : ∀ W, Rd KO (fun _ => True) W (.slice none 0 0) [] → Rd KO Sa W (.slice Aa la.length ca) la → Tabs W → Calls Tryd.prog 54 #[.agg #[.int .i64 fa, .slice none 0 0], .agg #[.int .i64 fa, .slice Aa la.length ca]] W (ChQ W (⟨fa, po⟩, 0)) := fun W h1 h2 h3 => by rw [← e1]; exact cF1 W h1 h2 h3
    have cF2x : ∀ W, Rd KO Sa W (.slice Aa la.length ca) la → Rd KO (fun _ => True) W (.slice none 0 0) [] → Tabs W → Calls Tryd.prog 54 #[.agg #[.int .i64 fa, .slice Aa la.length ca], .agg #[.int .i64 n, .slice none 0 0]] W (ChQ W (⟨fa, po⟩, 0)) := fun W h1 h2 h3 => by rw [← e2]; exact cF2 n W h1 h2 h3
    have cH1 := cH fa
    have cH2 := cH n
    rw [e4] at cH1
    rw [e5] at cH2
    change ∀ v S W, _ → _ → Calls _ _ _ _ (ChQ _ (allR fa [⟨fa, la⟩])) at cA
    rw [e6] at cA
    have kS := fun (va vb : Value) (S S2 : Nat → Prop) (W : World) h1 h2 => same_ch pf pf va vb po po S S2 W h1 h2
    rw [chEq_self] at kS
    clear e1 e2 e4 e5 e6 e8 R hn hn0 hn1 cF0 cF1 cF2 cH cT cN hrd3
    subst e7
    have B10 := B1.c0
    have B11 := B1.c1
    dsimp only at B10 B11
    have kk := cH1 (w3.alloc (.cells #[.int .i64 pf, .slice A3 po.length c3] 24))
    have HB1 := Lib.hid B1
    have HB2 := Lib.hid B2
    clear B1 B2
    go_wp2_with fail
    with_reducible refine kk.mono ?_
    rintro e w4 ⟨rfl, hbx⟩
    dsimp only
    have hbw4 : Below w.heap.size w w4 := hbv3.trans (hbx.mono hbv3.size)
    have B1 := (HB1.out.next hbx).alloc (.cells #[.int .i64 pf, .slice none 0 0] 24)
    have B2 := (HB2.out.next hbx).alloc (.cells #[.int .i64 pf, .slice none 0 0] 24)
    have B3 := BoxC.newN (w := w4) (f := pf)
    have hbv4 : Below w.heap.size w (w4.alloc (.cells #[.int .i64 pf, .slice none 0 0] 24)) := hbw4.alloc hbw4.size _
    clear kk hbx B10 B11 HB1 HB2
    have kk := cH2 (w4.alloc (.cells #[.int .i64 pf, .slice none 0 0] 24))
    have HB1 := Lib.hid B1
    have HB2 := Lib.hid B2
    have HB3 := Lib.hid B3
    clear B1 B2 B3
    go_wp2_with fail
    with_reducible refine kk.mono ?_
    rintro e w5 ⟨rfl, hbx⟩
    dsimp only
    have hbw5 : Below w.heap.size w w5 := hbv4.trans (hbx.mono hbv4.size)
    have B1 := (HB1.out.next hbx).alloc (.cells #[.int .i64 n, .slice none 0 0] 24)
    have B2 := (HB2.out.next hbx).alloc (.cells #[.int .i64 n, .slice none 0 0] 24)
    have B3 := (HB3.out.next hbx).alloc (.cells #[.int .i64 n, .slice none 0 0] 24)
    have B4 := BoxC.newN (w := w5) (f := n)
    have hbv5 : Below w.heap.size w (w5.alloc (.cells #[.int .i64 n, .slice none 0 0] 24)) := hbw5.alloc hbw5.size _
    clear kk hbx HB1 HB2 HB3
    have B10 := B1.c0
    have B11 := B1.c1
    have B30 := B3.c0
    have B31 := B3.c1
    dsimp only at B10 B11 B30 B31
    have kk := cF1x _ B3.rd B1.rd (hT.below hbv5)
    have HB1 := Lib.hid B1
    have HB2 := Lib.hid B2
    have HB4 := Lib.hid B4
    clear B1 B2 B3 B4
    go_wp2_with fail
    with_reducible refine kk.mono ?_
    rintro e w6 ⟨v6, rfl, hbx, hr6⟩
    obtain ⟨S6, hrd6⟩ : ∃ S, Rd KO S w6 v6 po := ⟨_, hr6.rd⟩
    obtain ⟨A6, c6, rfl, hA6, hs6⟩ := hr6.rd
    dsimp only
    have hbw6 : Below w.heap.size w w6 := hbv5.trans (hbx.mono hbv5.size)
    have B1 := (HB1.out.next hbx).alloc (.cells #[.int .i64 pf, .slice A6 po.length c6] 24)
    have B2 := (HB2.out.next hbx).alloc (.cells #[.int .i64 pf, .slice A6 po.length c6] 24)
    have B4 := (HB4.out.next hbx).alloc (.cells #[.int .i64 pf, .slice A6 po.length c6] 24)
    have B5 := BoxC.new (c := ⟨pf, po⟩) hrd6
    have hbv6 : Below w.heap.size w (w6.alloc (.cells #[.int .i64 pf, .slice A6 po.length c6] 24)) := hbw6.alloc hbw6.size _
    clear kk hbx B10 B11 B30 B31 HB1 HB2 HB4 hr6 hs6 hA6
    have B10 := B1.c0
    have B11 := B1.c1
    have B40 := B4.c0
    have B41 := B4.c1
    dsimp only at B10 B11 B40 B41
    have kk := cF2x _ B1.rd B4.rd (hT.below hbv6)
    have HB1 := Lib.hid B1
    have HB2 := Lib.hid B2
    have HB5 := Lib.hid B5
    clear B1 B2 B4 B5
    go_wp2_with fail
    with_reducible refine kk.mono ?_
    rintro e w7 ⟨v7, rfl, hbx, hr7⟩
    obtain ⟨S7, hrd7⟩ : ∃ S, Rd KO S w7 v7 po := ⟨_, hr7.rd⟩
    obtain ⟨A7, c7, rfl, hA7, hs7⟩ := hr7.rd
    dsimp only
    have hbw7 : Below w.heap.size w w7 := hbv6.trans (hbx.mono hbv6.size)
    have B1 := (HB1.out.next hbx).alloc (.cells #[.int .i64 pf, .slice A7 po.length c7] 24)
    have B2 := (HB2.out.next hbx).alloc (.cells #[.int .i64 pf, .slice A7 po.length c7] 24)
    have B5 := (HB5.out.next hbx).alloc (.cells #[.int .i64 pf, .slice A7 po.length c7] 24)
    have B6 := BoxC.new (c := ⟨pf, po⟩) hrd7
    have hbv7 : Below w.heap.size w (w7.alloc (.cells #[.int .i64 pf, .slice A7 po.length c7] 24)) := hbw7.alloc hbw7.size _
    clear kk hbx B10 B11 B40 B41 HB1 HB2 HB5 hr7 hs7 hA7
    have B10 := B1.c0
    have B11 := B1.c1
    dsimp only at B10 B11
    have hba8 : Below ((w7.alloc (.cells #[.int .i64 pf, .slice A7 po.length c7] 24))).heap.size (w7.alloc (.cells #[.int .i64 pf, .slice A7 po.length c7] 24)) ((w7.alloc (.cells #[.int .i64 pf, .slice A7 po.length c7] 24)).alloc (.cells #[.int .i64 pf, .slice Aa la.length ca] 24)) := (Below.refl _ _).alloc (Nat.le_refl _) _
    have hbv8 : Below w.heap.size w ((w7.alloc (.cells #[.int .i64 pf, .slice A7 po.length c7] 24)).alloc (.cells #[.int .i64 pf, .slice Aa la.length ca] 24)) := hbv7.alloc hbv7.size _
    have LB1 := B1.next hba8
    have LB2 := B2.next hba8
    have LB5 := B5.next hba8
    have LB6 := B6.next hba8
    have hrow : Rd KC (fun _ => True) ((w7.alloc (.cells #[.int .i64 pf, .slice A7 po.length c7] 24)).alloc (.cells #[.int .i64 pf, .slice Aa la.length ca] 24)) (.slice (some ⟨((w7.alloc (.cells #[.int .i64 pf, .slice A7 po.length c7] 24))).heap.size, 0, none⟩) 1 1) (List.map (fun p : Change × Value => p.1) [(⟨pf, la⟩, .slice Aa la.length ca)]) := by
      refine rd_chgs (ps := [(⟨pf, la⟩, .slice Aa la.length ca)]) (heap_alloc_new (w7.alloc (.cells #[.int .i64 pf, .slice A7 po.length c7] 24)) (.cells #[.int .i64 pf, .slice Aa la.length ca] 24)) rfl rfl (by decide) fun p hp => ?_
      simp only [List.mem_cons, List.mem_nil_iff, or_false] at hp
      subst hp
      · exact ⟨_, LB1.rd⟩
    simp only [List.map_cons, List.map_nil, World.size_alloc] at hrow
    have kk := cA _ _ _ hrow (hT.below hbv8)
    have HB1 := Lib.hid LB1
    have HB2 := Lib.hid LB2
    have HB5 := Lib.hid LB5
    have HB6 := Lib.hid LB6
    clear hrow B1 B2 B5 B6 LB1 LB2 LB5 LB6 hba8
    go_wp2_with fail
    with_reducible refine kk.mono ?_
    rintro e w9 ⟨v9, rfl, hbx, hr9⟩
    obtain ⟨S9, hrd9⟩ : ∃ S, Rd KO S w9 v9 po := ⟨_, hr9.rd⟩
    obtain ⟨A9, c9, rfl, hA9, hs9⟩ := hr9.rd
    dsimp only
    have hbw9 : Below w.heap.size w w9 := hbv8.trans (hbx.mono hbv8.size)
    have B1 := (HB1.out.next hbx).alloc (.cells #[.int .i64 pf, .slice A9 po.length c9] 24)
    have B2 := (HB2.out.next hbx).alloc (.cells #[.int .i64 pf, .slice A9 po.length c9] 24)
    have B5 := (HB5.out.next hbx).alloc (.cells #[.int .i64 pf, .slice A9 po.length c9] 24)
    have B6 := (HB6.out.next hbx).alloc (.cells #[.int .i64 pf, .slice A9 po.length c9] 24)
    have B7 := BoxC.new (c := ⟨pf, po⟩) hrd9
    have hbv9 : Below w.heap.size w (w9.alloc (.cells #[.int .i64 pf, .slice A9 po.length c9] 24)) := hbw9.alloc hbw9.size _
    clear kk hbx B10 B11 HB1 HB2 HB5 HB6 hr9 hs9 hA9
    have B20 := B2.c0
    have B21 := B2.c1
    have B50 := B5.c0
    have B51 := B5.c1
    dsimp only at B20 B21 B50 B51
    have kk := kS _ _ _ _ _ B5.rd B2.rd
    have HB2 := Lib.hid B2
    have HB5 := Lib.hid B5
    have HB6 := Lib.hid B6
    have HB7 := Lib.hid B7
    clear B1 B2 B5 B6 B7
    go_wp2_with fail
    with_reducible refine kk.mono ?_
    rintro e w10 ⟨rfl, hbx⟩
    have hbw10 : Below w.heap.size w w10 := hbv9.trans (hbx.mono hbv9.size)
    have B2 := HB2.out.next hbx
    have B5 := HB5.out.next hbx
    have B6 := HB6.out.next hbx
    have B7 := HB7.out.next hbx
    clear kk hbx B20 B21 B50 B51 HB2 HB5 HB6 HB7
    have B20 := B2.c0
    have B21 := B2.c1
    have B60 := B6.c0
    have B61 := B6.c1
    dsimp only at B20 B21 B60 B61
    have kk := kS _ _ _ _ _ B6.rd B2.rd
    have HB2 := Lib.hid B2
    have HB5 := Lib.hid B5
    have HB6 := Lib.hid B6
    have HB7 := Lib.hid B7
    clear B2 B5 B6 B7
    go_wp2_with fail
    with_reducible refine kk.mono ?_
    rintro e w11 ⟨rfl, hbx⟩
    have hbw11 : Below w.heap.size w w11 := hbw10.trans (hbx.mono hbw10.size)
    have B2 := HB2.out.next hbx
    have B5 := HB5.out.next hbx
    have B6 := HB6.out.next hbx
    have B7 := HB7.out.next hbx
    clear kk hbx B20 B21 B60 B61 HB2 HB5 HB6 HB7
    have B20 := B2.c0
    have B21 := B2.c1
    have B70 := B7.c0
    have B71 := B7.c1
    dsimp only at B20 B21 B70 B71
    have kk := kS _ _ _ _ _ B7.rd B2.rd
    clear B2 B5 B6 B7
    go_wp2_with fail
    with_reducible refine kk.mono ?_
    rintro e w12 ⟨rfl, hbx⟩
    have hbw12 : Below w.heap.size w w12 := hbw11.trans (hbx.mono hbw11.size)
    clear kk hbx B20 B21 B70 B71
    go_wp2_with fail
    go_ret
    exact ⟨rfl, hbw12⟩
  · have heb : (pe != 0) = true := by simp [he]
    have e1 : cmpR ⟨fa, la⟩ ⟨0, []⟩ = (⟨0, []⟩, pe) := by
      unfold cmpR
      rw [HR.out, if_pos he]
    have cF0x : ∀ W, Rd KO Sa W (.slice Aa la.length ca) la → Rd KO (fun _ => True) W (.slice none 0 0) [] → Tabs W → Calls Tryd.prog 54 #[.agg #[.int .i64 fa, .slice Aa la.length ca], .agg #[.int .i64 0, .slice none 0 0]] W (ChQ W (⟨0, []⟩, pe)) := fun W h1 h2 h3 => by rw [← e1]; exact cF0 W h1 h2 h3
    have HE := Lib.hid he
    have hqq : (pe == pe) = true := by simp
    clear he e1 cF0 cF1 cF2 cH cT cN hrd3 cA
    have B10 := B1.c0
    have B11 := B1.c1
    dsimp only at B10 B11
    have kk := cF0x _ B1.rd (Rd.nil _ _ _ _ _ (by simp)) (hT.below hbv3)
    have HB1 := Lib.hid B1
    have HB2 := Lib.hid B2
    clear B1 B2
    go_wp2_with fail
    with_reducible refine kk.mono ?_
    rintro e w4 ⟨v4, rfl, hbx, hr4⟩
    obtain ⟨S4, hrd4⟩ : ∃ S, Rd KO S w4 v4 [] := ⟨_, hr4.rd⟩
    obtain ⟨A4, c4, rfl, hA4, hs4⟩ := hr4.rd
    dsimp only
    have hbw4 : Below w.heap.size w w4 := hbv3.trans (hbx.mono hbv3.size)
    simp only [List.length_nil] at hrd4 ⊢
    have B1 := (HB1.out.next hbx).alloc (.cells #[.int .i64 0, .slice A4 0 c4] 24)
    have B2 := (HB2.out.next hbx).alloc (.cells #[.int .i64 0, .slice A4 0 c4] 24)
    have B3 := BoxC.new (c := ⟨0, []⟩) hrd4
    have hbv4 : Below w.heap.size w (w4.alloc (.cells #[.int .i64 0, .slice A4 0 c4] 24)) := hbw4.alloc hbw4.size _
    clear kk hbx B10 B11 HB1 HB2 hr4 hs4 hA4
    clear B1 B2 B3
    go_wp2_with fail
    go_ret
    exact ⟨rfl, hbv4⟩
end Go.Proofs.YtaemajcpgmaapaaDoor

namespace Go.Proofs.YtaemajcpgmaapaaDoor.composeNothing
open Go.ChangeShapes Go.WideShapes Go.ChangeAt Go.RowKit

theorem pars : Tryd.f12.params.toList = [24] := congrArg Array.toList Tryd.params12
theorem res : Tryd.f12.resultTypes = #[4] := by kernel_rfl
theorem readable : ∀ t ∈ Tryd.f12.params.toList, Tryd.prog.readableRec t = true ∧ t < Tryd.prog.types.size := by
  rw [pars]
  intro t ht
  simp only [List.mem_cons, List.mem_nil_iff, or_false] at ht
  subst ht
  exact ⟨by kernel_rfl, of_decide_eq_true (by kernel_rfl)⟩
set_option maxRecDepth 100000 in
/-- The walk, said of the arguments as the form reads them. -/
theorem contract (H : Type) (enc : TypeId × Value → H) (W : World) (base : Nat) (args : Array Value) (ds gs : List (DataW H)) (before : List MemPlace)
    (hval : ∀ (j : Nat) t v, Tryd.f12.params[j]? = some t → args[j]? = some v → Value.okWide Tryd.prog W .any base t v)
    (hW : DataW.Whole enc Tryd.prog Tryd.f12.params.toList Rows.composeNothingSpec.vars false W args.toList ds gs before)
    (hz : (DataW.weightsEach Tryd.prog (Tryd.f12.params.toList ++ (OpenSpec.ofChange Rows.composeNothingSpec).bare.plain.varTypes Tryd.prog) (ds ++ gs)).all (· ≤ reachBytes) = true)
    (hL : laidMetH Tryd.prog twoLaid W) : Calls Tryd.prog 12 args W fun e W' => ∃ v, e = .returned v ∧ Rows.composeNothingSpec.post enc Tryd.prog Tryd.f12 false true false false W args v W' := by
  have hW' := hW
  obtain ⟨p, q, hA0, hV, rfl, _, _⟩ := hW
  obtain ⟨rfl, rfl⟩ := trodVars_none hV
  have hA : DataW.TrodAll enc Tryd.prog W 0 (fun _ => true) true Tryd.f12.params.toList args.toList ds p := hA0
  rw [pars] at hA
  have hz2 : (DataW.weightsEach Tryd.prog (Tryd.f12.params.toList ++ []) (ds ++ [])).all (· ≤ reachBytes) = true := hz
  rw [List.append_nil, List.append_nil, pars] at hz2
  rw [Tryd.params12] at hval
  obtain ⟨v0, vs0, d0, ds0, p0, q0, hargs, rfl, rfl, h0, r0⟩ := trodAll_cons hA
  obtain ⟨rfl, rfl, rfl⟩ := trodAll_nil r0
  obtain rfl : args = #[v0] := by cases args; simp_all
  obtain ⟨f0, vo0, l0, rfl, rd0⟩ := open_change (hval 0 24 v0 rfl rfl) h0 (wb_of hz2 0 _ _ rfl rfl)
  refine (cnothing_any f0 vo0 l0 _ W rd0 (tabs_of_laid hL)).mono fun e W' ⟨he, hg⟩ => ?_
  subst he
  exact ⟨_, rfl, post_true rfl res readable hW' rfl hg⟩

theorem reads (os : Os) {H : Type} (enc : TypeId × Value → H) : ∃ places, DataW.whole enc Tryd.prog ((laidWorld os).forCall (fun _ _ => 0) ⟨#[], #[.agg #[.int .i64 0, .slice none 0 0]], []⟩).memory Tryd.f12.params.toList Rows.composeNothingSpec.vars false (show Array Value from #[.agg #[.int .i64 0, .slice none 0 0]]).toList 8 = some ([.agg [.lit (.int .i64 0), .nil]], [], places) :=
  ⟨[], by kernel_rfl⟩
set_option maxRecDepth 100000 in
theorem lifted (os : Os) (started : os.Started) (H : Type) (enc : TypeId × Value → H) (F : Stop.Interp) :
    ReturnsInHanded {} Tryd.checked os 12 .any ((OpenSpec.ofChange Rows.composeNothingSpec).preRow enc Tryd.prog Tryd.f12 Rows.composeNothingRow.domain false Rows.composeNothingRow.laid) (((OpenSpec.ofChange Rows.composeNothingSpec).at F).post enc Tryd.prog Tryd.f12 false true false false) := by
  obtain ⟨places, hx⟩ := reads os enc
  refine returnsInHanded_of_row (C := Tryd.checked) (s := (OpenSpec.ofChange Rows.composeNothingSpec)) own started (by kernel_rfl) Tryd.func12
    (witness_row_at (enc := enc) (C := Tryd.checked) false (laidWorld os) #[.agg #[.int .i64 0, .slice none 0 0]] rfl (by kernel_rfl) (by kernel_rfl) (by kernel_rfl)
      (OpenSpec.preRow_of_cond 8 hx (by kernel_rfl) (fun k hk => by cases hk) (by kernel_rfl) (laid_met os _))) ?_
  intro W base args ds gs before hval hW _ _ hz hL _ _
  exact contract H enc W base args ds gs before hval hW hz hL
theorem wf0 : Rows.composeNothingRow.wf (OpenSpec.ofChange (OpenSpec.ofChange Rows.composeNothingSpec).bare) = true := by kernel_rfl
theorem in0 : (Rows.composeNothingRow.inPlace == Tryd.prog.inPlace 12) = true := by kernel_rfl
theorem un0 : (Rows.composeNothingRow.unfollowed == Tryd.prog.unfollowed 12) = true := by kernel_rfl
theorem rec0 : (Rows.composeNothingRow.recurses == Tryd.prog.recurses 12) = true := by kernel_rfl
theorem var0 : (Rows.composeNothingRow.named == Tryd.prog.varsNamed 12) = true := by kernel_rfl
theorem joined0 : joinedFacts Tryd.prog 12 Tryd.f12 (OpenSpec.ofChange Rows.composeNothingSpec).bare Rows.composeNothingRow = true :=
  joined wf0 in0 un0 rec0 var0 (by kernel_rfl) rfl rfl rfl rfl rfl (by kernel_rfl)
theorem inst0 : Tryd.f12.isInstance Tryd.prog Rows.composeNothingRow.origin Rows.composeNothingRow.targs := of_decide_eq_true (by kernel_rfl)
theorem wrap0 : Tryd.f12.isWrapper Tryd.prog Rows.composeNothingRow.wrapper Rows.composeNothingRow.mainSum := by
  unfold Func.isWrapper
  rw [if_neg (of_decide_eq_false (by kernel_rfl))]
  exact ⟨rfl, rfl⟩
theorem name0 : Tryd.prog.funcNamed "blotter/blotterlaw06.ComposeNothing" = some 12 := by kernel_rfl
theorem said : Rows.ComposeNothingSaid :=
  OpenClaim.holds_of_cond 12 Tryd.f12 rfl rfl rfl rfl rfl rfl rfl ⟨rfl, rfl, rfl, rfl, rfl⟩ rfl rfl rfl rfl rfl name0 Tryd.func12 joined0 inst0 wrap0
    (fun os started H enc _ F => by rw [OpenClaim.pre_eq_preRow]; exact lifted os started H enc F)
/-- No parameter wants a stand-in; the program's own looks are off. -/
theorem plain (f : FuncId) (fn : Func) (hf : Tryd.pinned.checked.prog.funcNamed "blotter/blotterlaw06.ComposeNothing" = some f) (hfn : Tryd.pinned.checked.prog.funcs[f]? = some fn) :
    false = Tryd.pinned.checked.prog.looks [] ∧ ∀ (j : Nat) t, fn.params[j]? = some t → Tryd.pinned.checked.prog.wantsStandIn t = false := by
  obtain rfl : f = 12 := Option.some.inj (name0.symm.trans hf) |>.symm
  obtain rfl : fn = Tryd.f12 := (Option.some.inj (Tryd.func12.symm.trans hfn)).symm
  refine ⟨looks0.symm, fun j t ht => ?_⟩
  rw [Tryd.params12] at ht
  have hm := Array.mem_of_getElem? ht
  simp only [List.mem_toArray, List.mem_cons, List.mem_nil_iff, or_false] at hm
  subst hm
  exact (show Tryd.prog.wantsStandIn 24 = false by kernel_rfl)
/-- THE CARD. -/
theorem text0 : Rows.composeNothingRow.wfByText (OpenSpec.ofChange Rows.composeNothingSpec) = true := by kernel_rfl
theorem goes0 : false = Rows.composeNothingRow.goesBy Tryd.prog := by kernel_rfl
theorem card : Rows.ComposeNothingCardSaid :=
  Claim7.holds_tied_plain_at .later [] _ _ _ _ said (fun _ h => by cases h) text0 (fun _ h => by cases h) composeNothing_row_tie rfl ⟨rfl, rfl⟩ main0 rfl plain goes0
end Go.Proofs.YtaemajcpgmaapaaDoor.composeNothing
