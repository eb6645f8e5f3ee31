/- The walk: blotterlaw07.FollowNothing; follow.Past of none. -/
import Derived.Test.YtaemajcpgmaapaaDoorLawLong
import Derived.Test.YtaemajcpgmaapaaDoorSame3
namespace Go.Proofs.YtaemajcpgmaapaaDoor
open Go.RowKit

set_option maxRecDepth 100000 in
set_option maxHeartbeats 2000000 in
theorem past_none (f : Int) (vo : Value) (l : List Op) (S : Nat → Prop) (w : World) (h : Rd KO S w vo l) (hT : Tabs w) (hR : Rt ⟨f, l⟩) :
    Calls Tryd.prog 32 #[.slice none 0 0, .agg #[.int .i64 f, vo]] w (ChQ w (⟨f, normL l⟩, 0)) := by
  have cn := fun W h1 h2 => normal_ch f vo l S W h1 h2
  have hba : Below w.heap.size w ((w.alloc (.cells #[.int .i64 f, vo] 24)).alloc (.cells #[.int .i64 0, .slice none 0 0] 24)) := ((Below.refl _ _).alloc (Nat.le_refl _) _).alloc (by simp) _
  have cn1 := cn _ (h.below hba) (hT.below hba)
  rw [hR.nm] at cn1
  have B1 : BoxC ((w.alloc (.cells #[.int .i64 f, vo] 24)).alloc (.cells #[.int .i64 0, .slice none 0 0] 24)) w.heap.size ⟨f, l⟩ vo S := (BoxC.new (c := ⟨f, l⟩) h).alloc _
  have g2 : ((w.alloc (.cells #[.int .i64 f, vo] 24)).alloc (.cells #[.int .i64 0, .slice none 0 0] 24)).heap[w.heap.size + 1]? = some (.cells #[.int .i64 0, .slice none 0 0] 24 (0, 0)) := by
    simpa using heap_alloc_new (w.alloc (.cells #[.int .i64 f, vo] 24)) (.cells #[.int .i64 0, .slice none 0 0] 24)
  obtain ⟨A, c, rfl, hA, hr⟩ := h
  have H1 := Lib.hid B1
  have H2 := Lib.hid g2
  have H3 := Lib.hid hba
  clear B1 g2 hba cn hr
  go_enter Tryd.func32, Tryd.ntmps32
  go_wp2_with fail
  with_reducible refine cn1.mono ?_
  rintro e w1 ⟨v1, rfl, hb1, hr1⟩
  obtain ⟨A1, c1, rfl, hA1, hs1⟩ := hr1.rd
  have hbw1 : Below w.heap.size w w1 := H3.out.trans (hb1.mono H3.out.size)
  have g3 := (hb1.block _ (by simp)).trans H2.out
  have hlt3 : w.heap.size + 1 < w1.heap.size := (Array.getElem?_eq_some_iff.1 g3).1
  have ne3 : w.heap.size + 1 ≠ w1.heap.size := by omega
  have gx := heap_alloc_new w1 (.cells #[.int .i64 f, .slice A1 (normL l).length c1] 24)
  have hba1 : ∀ o, Below w1.heap.size w1 (w1.alloc o) := fun o => (Below.refl _ _).alloc (Nat.le_refl _) o
  have m0 : (w1.alloc (.cells #[.int .i64 f, .slice A1 (normL l).length c1] 24)).cell? ⟨w1.heap.size, 0, none⟩ = some (.int .i64 f) := cell_of_row _ _ 0 _ _ _ gx
  have m1 : (w1.alloc (.cells #[.int .i64 f, .slice A1 (normL l).length c1] 24)).cell? ⟨w1.heap.size, 1, none⟩ = some (.slice A1 (normL l).length c1) := cell_of_row _ _ 1 _ _ _ gx
  have g4 := ((hba1 (.cells #[.int .i64 f, .slice A1 (normL l).length c1] 24)).block _ hlt3).trans g3
  have n0 : (w1.alloc (.cells #[.int .i64 f, .slice A1 (normL l).length c1] 24)).cell? ⟨w.heap.size + 1, 0, none⟩ = some (.int .i64 0) := cell_of_row _ _ 0 _ _ _ g4
  have n1 : (w1.alloc (.cells #[.int .i64 f, .slice A1 (normL l).length c1] 24)).cell? ⟨w.heap.size + 1, 1, none⟩ = some (.slice none 0 0) := cell_of_row _ _ 1 _ _ _ g4
  have z0 : (w1.alloc (.cells #[.int .i64 f, .slice A1 (normL l).length c1] 24)).frozen? ⟨w.heap.size + 1, 0, none⟩ = false := frozen_of_row _ _ 0 _ _ g4
  have z1 : (w1.alloc (.cells #[.int .i64 f, .slice A1 (normL l).length c1] 24)).frozen? ⟨w.heap.size + 1, 1, none⟩ = false := frozen_of_row _ _ 1 _ _ g4
  have HB := Lib.hid hbw1
  have HR := Lib.hid hr1
  have HG := Lib.hid g4
  clear gx g3 g4 hbw1 hr1 hb1 hs1 cn1 H1 H2 H3
  go_wp2_with fail
  go_loopg [7, 17] 1 (fun g s7 s17 wr => s7 = .int .i64 0 ∧ s17 = .int .i64 0 ∧ 0 < g ∧ Below w.heap.size w wr ∧ RowO w.heap.size wr (.slice A1 (normL l).length c1) (normL l) ∧
    wr.heap[w.heap.size + 1]? = some (.cells #[.int .i64 0, .slice none 0 0] 24 (0, 0)) ∧ wr.heap[w1.heap.size]? = some (.cells #[.int .i64 f, .slice A1 (normL l).length c1] 24 (0, 0)))
  case atStart => exact ⟨rfl, rfl, Nat.one_pos, HB.out.alloc HB.out.size _, (HR.out.mono (by simp; omega)).below (hba1 _), HG.out, heap_alloc_new w1 _⟩
  case round =>
    obtain ⟨rfl, rfl, hg, hbr, hor, hgr, hxr⟩ := hrel
    clear m0 m1 n0 n1 z0 z1 HB HR HG
    have m0 : wr.cell? ⟨w1.heap.size, 0, none⟩ = some (.int .i64 f) := cell_of_row _ _ 0 _ _ _ hxr
    have m1 : wr.cell? ⟨w1.heap.size, 1, none⟩ = some (.slice A1 (normL l).length c1) := cell_of_row _ _ 1 _ _ _ hxr
    have n0 : wr.cell? ⟨w.heap.size + 1, 0, none⟩ = some (.int .i64 0) := cell_of_row _ _ 0 _ _ _ hgr
    have n1 : wr.cell? ⟨w.heap.size + 1, 1, none⟩ = some (.slice none 0 0) := cell_of_row _ _ 1 _ _ _ hgr
    have z0 : wr.frozen? ⟨w.heap.size + 1, 0, none⟩ = false := frozen_of_row _ _ 0 _ _ hgr
    have z1 : wr.frozen? ⟨w.heap.size + 1, 1, none⟩ = false := frozen_of_row _ _ 1 _ _ hgr
    have HO := Lib.hid hor
    have HG := Lib.hid hgr
    clear hxr hor hgr
    go_wp2_with fail
    have hc : Chg (fun k => k = w.heap.size + 1) wr ((wr.setCell ⟨w.heap.size + 1, 0, none⟩ (.int .i64 f)).setCell ⟨w.heap.size + 1, 1, none⟩ (.slice A1 (normL l).length c1)) :=
      ((Chg.refl (fun k => k = w.heap.size + 1) wr).setCell (p := ⟨w.heap.size + 1, 0, none⟩) _ fun _ => rfl).setCell (p := ⟨w.heap.size + 1, 1, none⟩) _ fun _ => rfl
    have r0 : ((wr.setCell ⟨w.heap.size + 1, 0, none⟩ (.int .i64 f)).setCell ⟨w.heap.size + 1, 1, none⟩ (.slice A1 (normL l).length c1)).cell? ⟨w.heap.size + 1, 0, none⟩ = some (.int .i64 f) := (World.cell?_setCell_other _ _ _ _ (by simp)).trans (World.cell?_setCell_same _ _ _ n0)
    have r1 : ((wr.setCell ⟨w.heap.size + 1, 0, none⟩ (.int .i64 f)).setCell ⟨w.heap.size + 1, 1, none⟩ (.slice A1 (normL l).length c1)).cell? ⟨w.heap.size + 1, 1, none⟩ = some (.slice A1 (normL l).length c1) := World.cell?_setCell_same _ _ _ ((World.cell?_setCell_other _ _ _ _ (by simp)).trans n1)
    exact bodyPost_ret (v := .tuple #[.agg #[.int .i64 f, .slice A1 (normL l).length c1], .int .i64 0]) (by simp [results, Tryd.results32, go_sem, r0, r1]) rfl ⟨_, rfl, hbr.trans (hc.below hbr.size fun k hk => by rw [hk]; omega), HO.out.off HG.out (by decide) (by decide) hc⟩

theorem nothR_ok {n : Int} (h0 : 0 ≤ n) (h1 : n ≤ 20000) : nothR n = (⟨n, []⟩, 0) := by unfold nothR; rw [if_neg (by omega)]
theorem BoxC.newN {w : World} {f : Int} : BoxC (w.alloc (.cells #[.int .i64 f, .slice none 0 0] 24)) w.heap.size ⟨f, []⟩ (.slice none 0 0) (fun _ => True) :=
  ⟨heap_alloc_new w _, Rd.nil _ _ _ _ _ (by simp)⟩

set_option maxRecDepth 100000 in
set_option maxHeartbeats 4000000 in
theorem nothing_any (f : Int) (va : Value) (l : List Op) (S1 : Nat → Prop) (first : Bool) (w : World) (ha : Rd KO S1 w va l) (hT : Tabs w) :
    Calls Tryd.prog 6 #[.agg #[.int .i64 f, va], .bool first] w fun e w' => e = .returned (.bool true) ∧ Below w.heap.size w w' := by
  have hba : Below w.heap.size w (w.alloc (.cells #[.int .i64 f, va] 24)) := (Below.refl _ _).alloc (Nat.le_refl _) _
  have B1 := BoxC.new (c := ⟨f, l⟩) ha
  have cw := awake7 _ (hT.below hba)
  have cT := fun W h1 h2 => to_any f va l S1 W h1 h2
  have cN := fun W h1 h2 => normal_ch f va l S1 W h1 h2
  have cH := fun n W => noth_any n W
  have cF1 := fun W h1 h2 h3 => follow_any f f (.slice none 0 0) va [] l (fun _ => True) S1 first W h1 h2 h3
  have cF2 := fun W h1 h2 h3 => follow_any f f va (.slice none 0 0) l [] S1 (fun _ => True) first W h1 h2 h3
  have cP := fun W h1 h2 h3 => past_none f va l S1 W h1 h2 h3
  obtain ⟨A1, c1, rfl, hA1, hr1⟩ := ha
  obtain ⟨n, er, HR⟩ : ∃ n er, Hid (toR ⟨f, l⟩ = (n, er)) := ⟨_, _, rfl⟩
  rw [HR.out] at cT
  have HB1 := Lib.hid B1
  have HBA := Lib.hid hba
  clear B1 hba hr1
  go_enter Tryd.func6, Tryd.ntmps6
  go_wp2_with fail
  with_reducible refine cw.mono ?_
  rintro e w1 ⟨rfl, hb1⟩
  have hbw1 : Below w.heap.size w w1 := HBA.out.trans (hb1.mono HBA.out.size)
  have B1 := HB1.out.next hb1
  have a0 := B1.c0
  have a1 := B1.c1
  dsimp only at a0 a1
  have k1 := cT w1 B1.rd (hT.below hbw1)
  have HB1 := Lib.hid B1
  clear cw hb1 B1 cT
  go_wp2_with fail
  with_reducible refine k1.mono ?_
  rintro e w2 ⟨rfl, hb2⟩
  unfold R2
  dsimp only
  have hbw2 : Below w.heap.size w w2 := hbw1.trans (hb2.mono hbw1.size)
  have B1 := HB1.out.next hb2
  clear a0 a1
  have a0 := B1.c0
  have a1 := B1.c1
  dsimp only at a0 a1
  have k2 := cN w2 B1.rd (hT.below hbw2)
  have HC1 := Lib.hid B1
  clear k1 hb2 B1 cN HB1
  by_cases he : er = 0
  · subst he
    have R : Rt ⟨f, l⟩ := toR_rt (by rw [HR.out])
    have hlo := R.lo
    have hhi := R.hi
    have hn : (toR ⟨f, l⟩).1 = n := by rw [HR.out]
    have hn0 : 0 ≤ n := by rw [← hn]; have := R.long; omega
    have hn1 : n ≤ 20000 := by rw [← hn, R.to]; exact R.big
    have e1 := folR_none (first := first) R
    have e2 := folR_noneR (first := first) R
    rw [hn] at e2
    have e3 := R.nm
    dsimp only at hlo hhi e1 e2 e3
    have e4 := nothR_ok hlo hhi
    have e5 := nothR_ok hn0 hn1
    have cF1' : ∀ W, Rd KO (fun _ => True) W (.slice none 0 0) [] → Rd KO S1 W (.slice A1 l.length c1) l → Tabs W → Calls Tryd.prog 26 #[.agg #[.int .i64 f, .slice none 0 0], .agg #[.int .i64 f, .slice A1 l.length c1], .bool first] W (ChQ W (⟨f, normL l⟩, 0)) := fun W h1 h2 h3 => e1 ▸ cF1 W h1 h2 h3
    have cF2' : ∀ W, Rd KO S1 W (.slice A1 l.length c1) l → Rd KO (fun _ => True) W (.slice none 0 0) [] → Tabs W → Calls Tryd.prog 26 #[.agg #[.int .i64 f, .slice A1 l.length c1], .agg #[.int .i64 f, .slice none 0 0], .bool first] W (ChQ W (⟨n, []⟩, 0)) := fun W h1 h2 h3 => e2 ▸ cF2 W h1 h2 h3
    have cP' := fun W h1 h2 => cP W h1 h2 R
    rw [e3] at k2
    have cH1 := cH f
    have cH2 := cH n
    rw [e4] at cH1
    rw [e5] at cH2
    have cS1 := fun (va vb : Value) (S S' : Nat → Prop) (W : World) h1 h2 => same_ch f f va vb (normL l) (normL l) S S' W h1 h2
    have cS2 := fun (va vb : Value) (S S' : Nat → Prop) (W : World) h1 h2 => same_ch n n va vb [] [] S S' W h1 h2
    rw [chEq_self] at cS1 cS2
    generalize normL l = nl at *
    clear e1 e2 e3 e4 e5 cF1 cF2 cP cH R HR hn
    go_wp2_with fail
    with_reducible refine k2.mono ?_
    rintro e w3 ⟨v3, rfl, hb3, hr3⟩
    obtain ⟨S3, hrd3⟩ : ∃ S3, Rd KO S3 w3 v3 nl := ⟨_, hr3.rd⟩
    obtain ⟨A3, c3, rfl, hA3, hs3⟩ := hr3.rd
    dsimp only
    have hbw3 : Below w.heap.size w w3 := hbw2.trans (hb3.mono hbw2.size)
    have B1 := (HC1.out.next hb3).alloc (.cells #[.int .i64 f, .slice A3 nl.length c3] 24)
    have BP := BoxC.new (c := ⟨f, nl⟩) hrd3
    have hbv3 : Below w.heap.size w (w3.alloc (.cells #[.int .i64 f, .slice A3 nl.length c3] 24)) := hbw3.alloc hbw3.size _
    clear a0 a1 hr3 hs3 hb3 k2 HC1
    have b10 := B1.c0
    have b11 := B1.c1
    dsimp only at b10 b11
    have kk := cH1 (w3.alloc (.cells #[.int .i64 f, .slice A3 nl.length c3] 24))
    have HB1 := Lib.hid B1
    have HBP := Lib.hid BP
    clear B1 BP
    go_wp2_with fail
    with_reducible refine kk.mono ?_
    rintro e w4 ⟨rfl, hbx⟩
    dsimp only
    have hbw4 : Below w.heap.size w w4 := hbv3.trans (hbx.mono hbv3.size)
    have B1 := (HB1.out.next hbx).alloc (.cells #[.int .i64 f, .slice none 0 0] 24)
    have BP := (HBP.out.next hbx).alloc (.cells #[.int .i64 f, .slice none 0 0] 24)
    have BN := BoxC.newN (w := w4) (f := f)
    have hbv4 : Below w.heap.size w (w4.alloc (.cells #[.int .i64 f, .slice none 0 0] 24)) := hbw4.alloc hbw4.size _
    clear hbx kk b10 b11 HB1 HBP
    have bp0 := BP.c0
    have bp1 := BP.c1
    dsimp only at bp0 bp1
    have kk := cH2 (w4.alloc (.cells #[.int .i64 f, .slice none 0 0] 24))
    have HB1 := Lib.hid B1
    have HBP := Lib.hid BP
    have HBN := Lib.hid BN
    clear B1 BP BN
    go_wp2_with fail
    with_reducible refine kk.mono ?_
    rintro e w5 ⟨rfl, hbx⟩
    dsimp only
    have hbw5 : Below w.heap.size w w5 := hbv4.trans (hbx.mono hbv4.size)
    have B1 := (HB1.out.next hbx).alloc (.cells #[.int .i64 n, .slice none 0 0] 24)
    have BP := (HBP.out.next hbx).alloc (.cells #[.int .i64 n, .slice none 0 0] 24)
    have BN := (HBN.out.next hbx).alloc (.cells #[.int .i64 n, .slice none 0 0] 24)
    have BB := BoxC.newN (w := w5) (f := n)
    have hbv5 : Below w.heap.size w (w5.alloc (.cells #[.int .i64 n, .slice none 0 0] 24)) := hbw5.alloc hbw5.size _
    clear hbx kk bp0 bp1 HB1 HBP HBN
    have bn0 := BN.c0
    have bn1 := BN.c1
    have b10 := B1.c0
    have b11 := B1.c1
    dsimp only at bn0 bn1 b10 b11
    have kk := cF1' _ BN.rd B1.rd (hT.below hbv5)
    have HB1 := Lib.hid B1
    have HBP := Lib.hid BP
    have HBN := Lib.hid BN
    have HBB := Lib.hid BB
    clear B1 BP BN BB
    go_wp2_with fail
    with_reducible refine kk.mono ?_
    rintro e w6 ⟨v6, rfl, hbx, hr6⟩
    obtain ⟨S6, hrd6⟩ : ∃ S6, Rd KO S6 w6 v6 nl := ⟨_, hr6.rd⟩
    obtain ⟨A6, c6, rfl, hA6, hs6⟩ := hr6.rd
    dsimp only
    have hbw6 : Below w.heap.size w w6 := hbv5.trans (hbx.mono hbv5.size)
    have B1 := (HB1.out.next hbx).alloc (.cells #[.int .i64 f, .slice A6 nl.length c6] 24)
    have BP := (HBP.out.next hbx).alloc (.cells #[.int .i64 f, .slice A6 nl.length c6] 24)
    have BN := (HBN.out.next hbx).alloc (.cells #[.int .i64 f, .slice A6 nl.length c6] 24)
    have BB := (HBB.out.next hbx).alloc (.cells #[.int .i64 f, .slice A6 nl.length c6] 24)
    have BX := BoxC.new (c := ⟨f, nl⟩) hrd6
    have hbv6 : Below w.heap.size w (w6.alloc (.cells #[.int .i64 f, .slice A6 nl.length c6] 24)) := hbw6.alloc hbw6.size _
    clear hbx kk bn0 bn1 b10 b11 HB1 HBP HBN HBB
    have bn0 := BN.c0
    have bn1 := BN.c1
    have b10 := B1.c0
    have b11 := B1.c1
    dsimp only at bn0 bn1 b10 b11
    have kk := cF2' _ B1.rd BN.rd (hT.below hbv6)
    have HB1 := Lib.hid B1
    have HBP := Lib.hid BP
    have HBN := Lib.hid BN
    have HBB := Lib.hid BB
    have HBX := Lib.hid BX
    clear B1 BP BN BB BX
    go_wp2_with fail
    with_reducible refine kk.mono ?_
    rintro e w7 ⟨v7, rfl, hbx, hr7⟩
    obtain ⟨S7, hrd7⟩ : ∃ S7, Rd KO S7 w7 v7 [] := ⟨_, hr7.rd⟩
    obtain ⟨A7, c7, rfl, hA7, hs7⟩ := hr7.rd
    dsimp only
    change Rd KO S7 w7 (.slice A7 0 c7) [] at hrd7
    have hbw7 : Below w.heap.size w w7 := hbv6.trans (hbx.mono hbv6.size)
    have B1 := (HB1.out.next hbx).alloc (.cells #[.int .i64 n, .slice A7 0 c7] 24)
    have BP := (HBP.out.next hbx).alloc (.cells #[.int .i64 n, .slice A7 0 c7] 24)
    have BN := (HBN.out.next hbx).alloc (.cells #[.int .i64 n, .slice A7 0 c7] 24)
    have BB := (HBB.out.next hbx).alloc (.cells #[.int .i64 n, .slice A7 0 c7] 24)
    have BX := (HBX.out.next hbx).alloc (.cells #[.int .i64 n, .slice A7 0 c7] 24)
    have BY := BoxC.new (c := ⟨n, []⟩) hrd7
    have hbv7 : Below w.heap.size w (w7.alloc (.cells #[.int .i64 n, .slice A7 0 c7] 24)) := hbw7.alloc hbw7.size _
    clear hbx kk bn0 bn1 b10 b11 HB1 HBP HBN HBB HBX
    have b10 := B1.c0
    have b11 := B1.c1
    dsimp only at b10 b11
    have kk := cP' _ B1.rd (hT.below hbv7)
    have HB1 := Lib.hid B1
    have HBP := Lib.hid BP
    have HBN := Lib.hid BN
    have HBB := Lib.hid BB
    have HBX := Lib.hid BX
    have HBY := Lib.hid BY
    clear B1 BP BN BB BX BY
    go_wp2_with fail
    with_reducible refine kk.mono ?_
    rintro e w8 ⟨v8, rfl, hbx, hr8⟩
    obtain ⟨S8, hrd8⟩ : ∃ S8, Rd KO S8 w8 v8 nl := ⟨_, hr8.rd⟩
    obtain ⟨A8, c8, rfl, hA8, hs8⟩ := hr8.rd
    dsimp only
    have hbw8 : Below w.heap.size w w8 := hbv7.trans (hbx.mono hbv7.size)
    have B1 := (HB1.out.next hbx).alloc (.cells #[.int .i64 f, .slice A8 nl.length c8] 24)
    have BP := (HBP.out.next hbx).alloc (.cells #[.int .i64 f, .slice A8 nl.length c8] 24)
    have BN := (HBN.out.next hbx).alloc (.cells #[.int .i64 f, .slice A8 nl.length c8] 24)
    have BB := (HBB.out.next hbx).alloc (.cells #[.int .i64 f, .slice A8 nl.length c8] 24)
    have BX := (HBX.out.next hbx).alloc (.cells #[.int .i64 f, .slice A8 nl.length c8] 24)
    have BY := (HBY.out.next hbx).alloc (.cells #[.int .i64 f, .slice A8 nl.length c8] 24)
    have BZ := BoxC.new (c := ⟨f, nl⟩) hrd8
    have hbv8 : Below w.heap.size w (w8.alloc (.cells #[.int .i64 f, .slice A8 nl.length c8] 24)) := hbw8.alloc hbw8.size _
    clear hbx kk b10 b11 HB1 HBP HBN HBB HBX HBY
    clear B1 BN
    have bx0 := BX.c0
    have bx1 := BX.c1
    have bp0 := BP.c0
    have bp1 := BP.c1
    dsimp only at bx0 bx1 bp0 bp1
    have kk := cS1 _ _ _ _ _ BX.rd BP.rd
    have HBP := Lib.hid BP
    have HBB := Lib.hid BB
    have HBX := Lib.hid BX
    have HBY := Lib.hid BY
    have HBZ := Lib.hid BZ
    clear BP BB BX BY BZ
    go_wp2_with fail
    with_reducible refine kk.mono ?_
    rintro e w9 ⟨rfl, hbx⟩
    have hbw9 : Below w.heap.size w w9 := hbv8.trans (hbx.mono hbv8.size)
    have BP := HBP.out.next hbx
    have BB := HBB.out.next hbx
    have BX := HBX.out.next hbx
    have BY := HBY.out.next hbx
    have BZ := HBZ.out.next hbx
    clear hbx kk HBP HBB HBX HBY HBZ bx0 bx1 bp0 bp1
    have by0 := BY.c0
    have by1 := BY.c1
    have bb0 := BB.c0
    have bb1 := BB.c1
    dsimp only at by0 by1 bb0 bb1
    have kk := cS2 _ _ _ _ _ BY.rd BB.rd
    have HBP := Lib.hid BP
    have HBB := Lib.hid BB
    have HBX := Lib.hid BX
    have HBY := Lib.hid BY
    have HBZ := Lib.hid BZ
    clear BP BB BX BY BZ
    go_wp2_with fail
    with_reducible refine kk.mono ?_
    rintro e w10 ⟨rfl, hbx⟩
    have hbw10 : Below w.heap.size w w10 := hbw9.trans (hbx.mono hbw9.size)
    have BP := HBP.out.next hbx
    have BB := HBB.out.next hbx
    have BX := HBX.out.next hbx
    have BY := HBY.out.next hbx
    have BZ := HBZ.out.next hbx
    clear hbx kk HBP HBB HBX HBY HBZ by0 by1 bb0 bb1
    have bz0 := BZ.c0
    have bz1 := BZ.c1
    have bp0 := BP.c0
    have bp1 := BP.c1
    dsimp only at bz0 bz1 bp0 bp1
    have kk := cS1 _ _ _ _ _ BZ.rd BP.rd
    have HBP := Lib.hid BP
    have HBB := Lib.hid BB
    have HBX := Lib.hid BX
    have HBY := Lib.hid BY
    have HBZ := Lib.hid BZ
    clear BP BB BX BY BZ
    go_wp2_with fail
    with_reducible refine kk.mono ?_
    rintro e w11 ⟨rfl, hbx⟩
    have hbw11 : Below w.heap.size w w11 := hbw10.trans (hbx.mono hbw10.size)
    clear hbx kk HBP HBB HBX HBY HBZ bz0 bz1 bp0 bp1
    go_wp2_with fail
    go_ret
    exact ⟨rfl, hbw11⟩
  · have heb : (er != 0) = true := by simp [he]
    have e3 : nmR ⟨f, l⟩ = (⟨0, []⟩, er) := by unfold nmR; rw [HR.out, if_neg he]
    rw [e3] at k2
    have HE := Lib.hid he
    clear he e3 cF1 cF2 cP cH
    go_wp2_with fail
    with_reducible refine k2.mono ?_
    rintro e w3 ⟨v3, rfl, hb3, hr3⟩
    obtain ⟨A3, c3, rfl, hA3, hs3⟩ := hr3.rd
    dsimp only
    have hbw3 : Below w.heap.size w w3 := hbw2.trans (hb3.mono hbw2.size)
    clear a0 a1 k2 hr3 hs3 hb3
    go_wp2_with fail
    go_ret
    exact ⟨by simp, hbw3.alloc hbw3.size _⟩
end Go.Proofs.YtaemajcpgmaapaaDoor
