/- The walk: blotterlaw07.FollowNothing; follow.Past of none. | compose.All; follow.Past, in general: the loops over a row of changesets. | Rows of changesets laid by a literal; what compose.All says of one and of three. -/
import Derived.Test.YtaemajcpgmaapaaDoorPkJ
import Derived.Test.YtaemajcpgmaapaaDoorPkE
import Derived.Test.YtaemajcpgmaapaaDoorPkM
namespace Go.Proofs.YtaemajcpgmaapaaDoor
open Go.RowKit

set_option maxRecDepth 100000 in
set_option maxHeartbeats 2000000 in
theorem past_none (f : Int) (vo : Value) (l : List Op) (S : Nat → Prop) (w : World) (h : Rd KO S w vo l) (hT : Tabs w) (hR : Rt ⟨f, l⟩) :
    Calls Tryd.prog 32 #[.slice none 0 0, .agg #[.int .i64 f, vo]] w (ChQ w (⟨f, normL l⟩, 0)) := by
  have cn := fun W h1 h2 => normal_ch f vo l S W h1 h2
  have hba : Below w.heap.size w ((w.alloc (.cells #[.int .i64 f, vo] 24)).alloc (.cells #[.int .i64 0, .slice none 0 0] 24)) := ((Below.refl _ _).alloc (Nat.le_refl _) _).alloc (by simp) _
  have cn1 := cn _ (h.below hba) (hT.below hba)
  rw [hR.nm] at cn1
  have B1 : BoxC ((w.alloc (.cells #[.int .i64 f, vo] 24)).alloc (.cells #[.int .i64 0, .slice none 0 0] 24)) w.heap.size ⟨f, l⟩ vo S := (BoxC.new (c := ⟨f, l⟩) h).alloc _
  have g2 : ((w.alloc (.cells #[.int .i64 f, vo] 24)).alloc (.cells #[.int .i64 0, .slice none 0 0] 24)).heap[w.heap.size + 1]? = some (.cells #[.int .i64 0, .slice none 0 0] 24 (0, 0)) := by
    simpa using heap_alloc_new (w.alloc (.cells #[.int .i64 f, vo] 24)) (.cells #[.int .i64 0, .slice none 0 0] 24)
  obtain ⟨A, c, rfl, hA, hr⟩ := h
  have H1 := Lib.hid B1
  have H2 := Lib.hid g2
  have H3 := Lib.hid hba
  clear B1 g2 hba cn hr
  go_enter Tryd.func32, Tryd.ntmps32
  go_wp2_with fail
  with_reducible refine cn1.mono ?_
  rintro e w1 ⟨v1, rfl, hb1, hr1⟩
  obtain ⟨A1, c1, rfl, hA1, hs1⟩ := hr1.rd
  have hbw1 : Below w.heap.size w w1 := H3.out.trans (hb1.mono H3.out.size)
  have g3 := (hb1.block _ (by simp)).trans H2.out
  have hlt3 : w.heap.size + 1 < w1.heap.size := (Array.getElem?_eq_some_iff.1 g3).1
  have ne3 : w.heap.size + 1 ≠ w1.heap.size := by omega
  have gx := heap_alloc_new w1 (.cells #[.int .i64 f, .slice A1 (normL l).length c1] 24)
  have hba1 : ∀ o, Below w1.heap.size w1 (w1.alloc o) := fun o => (Below.refl _ _).alloc (Nat.le_refl _) o
  have m0 : (w1.alloc (.cells #[.int .i64 f, .slice A1 (normL l).length c1] 24)).cell? ⟨w1.heap.size, 0, none⟩ = some (.int .i64 f) := cell_of_row _ _ 0 _ _ _ gx
  have m1 : (w1.alloc (.cells #[.int .i64 f, .slice A1 (normL l).length c1] 24)).cell? ⟨w1.heap.size, 1, none⟩ = some (.slice A1 (normL l).length c1) := cell_of_row _ _ 1 _ _ _ gx
  have g4 := ((hba1 (.cells #[.int .i64 f, .slice A1 (normL l).length c1] 24)).block _ hlt3).trans g3
  have n0 : (w1.alloc (.cells #[.int .i64 f, .slice A1 (normL l).length c1] 24)).cell? ⟨w.heap.size + 1, 0, none⟩ = some (.int .i64 0) := cell_of_row _ _ 0 _ _ _ g4
  have n1 : (w1.alloc (.cells #[.int .i64 f, .slice A1 (normL l).length c1] 24)).cell? ⟨w.heap.size + 1, 1, none⟩ = some (.slice none 0 0) := cell_of_row _ _ 1 _ _ _ g4
  have z0 : (w1.alloc (.cells #[.int .i64 f, .slice A1 (normL l).length c1] 24)).frozen? ⟨w.heap.size + 1, 0, none⟩ = false := frozen_of_row _ _ 0 _ _ g4
  have z1 : (w1.alloc (.cells #[.int .i64 f, .slice A1 (normL l).length c1] 24)).frozen? ⟨w.heap.size + 1, 1, none⟩ = false := frozen_of_row _ _ 1 _ _ g4
  have HB := Lib.hid hbw1
  have HR := Lib.hid hr1
  have HG := Lib.hid g4
  clear gx g3 g4 hbw1 hr1 hb1 hs1 cn1 H1 H2 H3
  go_wp2_with fail
  go_loopg [7, 17] 1 (fun g s7 s17 wr => s7 = .int .i64 0 ∧ s17 = .int .i64 0 ∧ 0 < g ∧ Below w.heap.size w wr ∧ RowO w.heap.size wr (.slice A1 (normL l).length c1) (normL l) ∧
    wr.heap[w.heap.size + 1]? = some (.cells #[.int .i64 0, .slice none 0 0] 24 (0, 0)) ∧ wr.heap[w1.heap.size]? = some (.cells #[.int .i64 f, .slice A1 (normL l).length c1] 24 (0, 0)))
  case atStart => exact ⟨rfl, rfl, Nat.one_pos, HB.out.alloc HB.out.size _, (HR.out.mono (by simp; omega)).below (hba1 _), HG.out, heap_alloc_new w1 _⟩
  case round =>
    obtain ⟨rfl, rfl, hg, hbr, hor, hgr, hxr⟩ := hrel
    clear m0 m1 n0 n1 z0 z1 HB HR HG
    have m0 : wr.cell? ⟨w1.heap.size, 0, none⟩ = some (.int .i64 f) := cell_of_row _ _ 0 _ _ _ hxr
    have m1 : wr.cell? ⟨w1.heap.size, 1, none⟩ = some (.slice A1 (normL l).length c1) := cell_of_row _ _ 1 _ _ _ hxr
    have n0 : wr.cell? ⟨w.heap.size + 1, 0, none⟩ = some (.int .i64 0) := cell_of_row _ _ 0 _ _ _ hgr
    have n1 : wr.cell? ⟨w.heap.size + 1, 1, none⟩ = some (.slice none 0 0) := cell_of_row _ _ 1 _ _ _ hgr
    have z0 : wr.frozen? ⟨w.heap.size + 1, 0, none⟩ = false := frozen_of_row _ _ 0 _ _ hgr
    have z1 : wr.frozen? ⟨w.heap.size + 1, 1, none⟩ = false := frozen_of_row _ _ 1 _ _ hgr
    have HO := Lib.hid hor
    have HG := Lib.hid hgr
    clear hxr hor hgr
    go_wp2_with fail
    have hc : Chg (fun k => k = w.heap.size + 1) wr ((wr.setCell ⟨w.heap.size + 1, 0, none⟩ (.int .i64 f)).setCell ⟨w.heap.size + 1, 1, none⟩ (.slice A1 (normL l).length c1)) :=
      ((Chg.refl (fun k => k = w.heap.size + 1) wr).setCell (p := ⟨w.heap.size + 1, 0, none⟩) _ fun _ => rfl).setCell (p := ⟨w.heap.size + 1, 1, none⟩) _ fun _ => rfl
    have r0 : ((wr.setCell ⟨w.heap.size + 1, 0, none⟩ (.int .i64 f)).setCell ⟨w.heap.size + 1, 1, none⟩ (.slice A1 (normL l).length c1)).cell? ⟨w.heap.size + 1, 0, none⟩ = some (.int .i64 f) := (World.cell?_setCell_other _ _ _ _ (by simp)).trans (World.cell?_setCell_same _ _ _ n0)
    have r1 : ((wr.setCell ⟨w.heap.size + 1, 0, none⟩ (.int .i64 f)).setCell ⟨w.heap.size + 1, 1, none⟩ (.slice A1 (normL l).length c1)).cell? ⟨w.heap.size + 1, 1, none⟩ = some (.slice A1 (normL l).length c1) := World.cell?_setCell_same _ _ _ ((World.cell?_setCell_other _ _ _ _ (by simp)).trans n1)
    exact bodyPost_ret (v := .tuple #[.agg #[.int .i64 f, .slice A1 (normL l).length c1], .int .i64 0]) (by simp [results, Tryd.results32, go_sem, r0, r1]) rfl ⟨_, rfl, hbr.trans (hc.below hbr.size fun k hk => by rw [hk]; omega), HO.out.off HG.out (by decide) (by decide) hc⟩

theorem nothR_ok {n : Int} (h0 : 0 ≤ n) (h1 : n ≤ 20000) : nothR n = (⟨n, []⟩, 0) := by unfold nothR; rw [if_neg (by omega)]
theorem BoxC.newN {w : World} {f : Int} : BoxC (w.alloc (.cells #[.int .i64 f, .slice none 0 0] 24)) w.heap.size ⟨f, []⟩ (.slice none 0 0) (fun _ => True) :=
  ⟨heap_alloc_new w _, Rd.nil _ _ _ _ _ (by simp)⟩

set_option maxRecDepth 100000 in
set_option maxHeartbeats 4000000 in
theorem nothing_any (f : Int) (va : Value) (l : List Op) (S1 : Nat → Prop) (first : Bool) (w : World) (ha : Rd KO S1 w va l) (hT : Tabs w) :
    Calls Tryd.prog 6 #[.agg #[.int .i64 f, va], .bool first] w fun e w' => e = .returned (.bool true) ∧ Below w.heap.size w w' := by
  have hba : Below w.heap.size w (w.alloc (.cells #[.int .i64 f, va] 24)) := (Below.refl _ _).alloc (Nat.le_refl _) _
  have B1 := BoxC.new (c := ⟨f, l⟩) ha
  have cw := awake7 _ (hT.below hba)
  have cT := fun W h1 h2 => to_any f va l S1 W h1 h2
  have cN := fun W h1 h2 => normal_ch f va l S1 W h1 h2
  have cH := fun n W => noth_any n W
  have cF1 := fun W h1 h2 h3 => follow_any f f (.slice none 0 0) va [] l (fun _ => True) S1 first W h1 h2 h3
  have cF2 := fun W h1 h2 h3 => follow_any f f va (.slice none 0 0) l [] S1 (fun _ => True) first W h1 h2 h3
  have cP := fun W h1 h2 h3 => past_none f va l S1 W h1 h2 h3
  obtain ⟨A1, c1, rfl, hA1, hr1⟩ := ha
  obtain ⟨n, er, HR⟩ : ∃ n er, Hid (toR ⟨f, l⟩ = (n, er)) := ⟨_, _, rfl⟩
  rw [HR.out] at cT
  have HB1 := Lib.hid B1
  have HBA := Lib.hid hba
  clear B1 hba hr1
  go_enter Tryd.func6, Tryd.ntmps6
  go_wp2_with fail
  with_reducible refine cw.mono ?_
  rintro e w1 ⟨rfl, hb1⟩
  have hbw1 : Below w.heap.size w w1 := HBA.out.trans (hb1.mono HBA.out.size)
  have B1 := HB1.out.next hb1
  have a0 := B1.c0
  have a1 := B1.c1
  dsimp only at a0 a1
  have k1 := cT w1 B1.rd (hT.below hbw1)
  have HB1 := Lib.hid B1
  clear cw hb1 B1 cT
  go_wp2_with fail
  with_reducible refine k1.mono ?_
  rintro e w2 ⟨rfl, hb2⟩
  unfold R2
  dsimp only
  have hbw2 : Below w.heap.size w w2 := hbw1.trans (hb2.mono hbw1.size)
  have B1 := HB1.out.next hb2
  clear a0 a1
  have a0 := B1.c0
  have a1 := B1.c1
  dsimp only at a0 a1
  have k2 := cN w2 B1.rd (hT.below hbw2)
  have HC1 := Lib.hid B1
  clear k1 hb2 B1 cN HB1
  by_cases he : er = 0
  · subst he
    have R : Rt ⟨f, l⟩ := toR_rt (by rw [HR.out])
    have hlo := R.lo
    have hhi := R.hi
    have hn : (toR ⟨f, l⟩).1 = n := by rw [HR.out]
    have hn0 : 0 ≤ n := by rw [← hn]; have := R.long; omega
    have hn1 : n ≤ 20000 := by rw [← hn, R.to]; exact R.big
    have e1 := folR_none (first := first) R
    have e2 := folR_noneR (first := first) R
    rw [hn] at e2
    have e3 := R.nm
    dsimp only at hlo hhi e1 e2 e3
    have e4 := nothR_ok hlo hhi
    have e5 := nothR_ok hn0 hn1
    have cF1' : ∀ W, Rd KO (fun _ => True) W (.slice none 0 0) [] → Rd KO S1 W (.slice A1 l.length c1) l → Tabs W → Calls Tryd.prog 26 #[.agg #[.int .i64 f, .slice none 0 0], .agg #[.int .i64 f, .slice A1 l.length c1], .bool first] W (ChQ W (⟨f, normL l⟩, 0)) := fun W h1 h2 h3 => e1 ▸ cF1 W h1 h2 h3
    have cF2' : ∀ W, Rd KO S1 W (.slice A1 l.length c1) l → Rd KO (fun _ => True) W (.slice none 0 0) [] → Tabs W → Calls Tryd.prog 26 #[.agg #[.int .i64 f, .slice A1 l.length c1], .agg #[.int .i64 f, .slice none 0 0], .bool first] W (ChQ W (⟨n, []⟩, 0)) := fun W h1 h2 h3 => e2 ▸ cF2 W h1 h2 h3
    have cP' := fun W h1 h2 => cP W h1 h2 R
    rw [e3] at k2
    have cH1 := cH f
    have cH2 := cH n
    rw [e4] at cH1
    rw [e5] at cH2
    have cS1 := fun (va vb : Value) (S S' : Nat → Prop) (W : World) h1 h2 => same_ch f f va vb (normL l) (normL l) S S' W h1 h2
    have cS2 := fun (va vb : Value) (S S' : Nat → Prop) (W : World) h1 h2 => same_ch n n va vb [] [] S S' W h1 h2
    rw [chEq_self] at cS1 cS2
    generalize normL l = nl at *
    clear e1 e2 e3 e4 e5 cF1 cF2 cP cH R HR hn
    go_wp2_with fail
    with_reducible refine k2.mono ?_
    rintro e w3 ⟨v3, rfl, hb3, hr3⟩
    obtain ⟨S3, hrd3⟩ : ∃ S3, Rd KO S3 w3 v3 nl := ⟨_, hr3.rd⟩
    obtain ⟨A3, c3, rfl, hA3, hs3⟩ := hr3.rd
    dsimp only
    have hbw3 : Below w.heap.size w w3 := hbw2.trans (hb3.mono hbw2.size)
    have B1 := (HC1.out.next hb3).alloc (.cells #[.int .i64 f, .slice A3 nl.length c3] 24)
    have BP := BoxC.new (c := ⟨f, nl⟩) hrd3
    have hbv3 : Below w.heap.size w (w3.alloc (.cells #[.int .i64 f, .slice A3 nl.length c3] 24)) := hbw3.alloc hbw3.size _
    clear a0 a1 hr3 hs3 hb3 k2 HC1
    have b10 := B1.c0
    have b11 := B1.c1
    dsimp only at b10 b11
    have kk := cH1 (w3.alloc (.cells #[.int .i64 f, .slice A3 nl.length c3] 24))
    have HB1 := Lib.hid B1
    have HBP := Lib.hid BP
    clear B1 BP
    go_wp2_with fail
    with_reducible refine kk.mono ?_
    rintro e w4 ⟨rfl, hbx⟩
    dsimp only
    have hbw4 : Below w.heap.size w w4 := hbv3.trans (hbx.mono hbv3.size)
    have B1 := (HB1.out.next hbx).alloc (.cells #[.int .i64 f, .slice none 0 0] 24)
    have BP := (HBP.out.next hbx).alloc (.cells #[.int .i64 f, .slice none 0 0] 24)
    have BN := BoxC.newN (w := w4) (f := f)
    have hbv4 : Below w.heap.size w (w4.alloc (.cells #[.int .i64 f, .slice none 0 0] 24)) := hbw4.alloc hbw4.size _
    clear hbx kk b10 b11 HB1 HBP
    have bp0 := BP.c0
    have bp1 := BP.c1
    dsimp only at bp0 bp1
    have kk := cH2 (w4.alloc (.cells #[.int .i64 f, .slice none 0 0] 24))
    have HB1 := Lib.hid B1
    have HBP := Lib.hid BP
    have HBN := Lib.hid BN
    clear B1 BP BN
    go_wp2_with fail
    with_reducible refine kk.mono ?_
    rintro e w5 ⟨rfl, hbx⟩
    dsimp only
    have hbw5 : Below w.heap.size w w5 := hbv4.trans (hbx.mono hbv4.size)
    have B1 := (HB1.out.next hbx).alloc (.cells #[.int .i64 n, .slice none 0 0] 24)
    have BP := (HBP.out.next hbx).alloc (.cells #[.int .i64 n, .slice none 0 0] 24)
    have BN := (HBN.out.next hbx).alloc (.cells #[.int .i64 n, .slice none 0 0] 24)
    have BB := BoxC.newN (w := w5) (f := n)
    have hbv5 : Below w.heap.size w (w5.alloc (.cells #[.int .i64 n, .slice none 0 0] 24)) := hbw5.alloc hbw5.size _
    clear hbx kk bp0 bp1 HB1 HBP HBN
    have bn0 := BN.c0
    have bn1 := BN.c1
    have b10 := B1.c0
    have b11 := B1.c1
    dsimp only at bn0 bn1 b10 b11
    have kk := cF1' _ BN.rd B1.rd (hT.below hbv5)
    have HB1 := Lib.hid B1
    have HBP := Lib.hid BP
    have HBN := Lib.hid BN
    have HBB := Lib.hid BB
    clear B1 BP BN BB
    go_wp2_with fail
    with_reducible refine kk.mono ?_
    rintro e w6 ⟨v6, rfl, hbx, hr6⟩
    obtain ⟨S6, hrd6⟩ : ∃ S6, Rd KO S6 w6 v6 nl := ⟨_, hr6.rd⟩
    obtain ⟨A6, c6, rfl, hA6, hs6⟩ := hr6.rd
    dsimp only
    have hbw6 : Below w.heap.size w w6 := hbv5.trans (hbx.mono hbv5.size)
    have B1 := (HB1.out.next hbx).alloc (.cells #[.int .i64 f, .slice A6 nl.length c6] 24)
    have BP := (HBP.out.next hbx).alloc (.cells #[.int .i64 f, .slice A6 nl.length c6] 24)
    have BN := (HBN.out.next hbx).alloc (.cells #[.int .i64 f, .slice A6 nl.length c6] 24)
    have BB := (HBB.out.next hbx).alloc (.cells #[.int .i64 f, .slice A6 nl.length c6] 24)
    have BX := BoxC.new (c := ⟨f, nl⟩) hrd6
    have hbv6 : Below w.heap.size w (w6.alloc (.cells #[.int .i64 f, .slice A6 nl.length c6] 24)) := hbw6.alloc hbw6.size _
    clear hbx kk bn0 bn1 b10 b11 HB1 HBP HBN HBB
    have bn0 := BN.c0
    have bn1 := BN.c1
    have b10 := B1.c0
    have b11 := B1.c1
    dsimp only at bn0 bn1 b10 b11
    have kk := cF2' _ B1.rd BN.rd (hT.below hbv6)
    have HB1 := Lib.hid B1
    have HBP := Lib.hid BP
    have HBN := Lib.hid BN
    have HBB := Lib.hid BB
    have HBX := Lib.hid BX
    clear B1 BP BN BB BX
    go_wp2_with fail
    with_reducible refine kk.mono ?_
    rintro e w7 ⟨v7, rfl, hbx, hr7⟩
    obtain ⟨S7, hrd7⟩ : ∃ S7, Rd KO S7 w7 v7 [] := ⟨_, hr7.rd⟩
    obtain ⟨A7, c7, rfl, hA7, hs7⟩ := hr7.rd
    dsimp only
    change Rd KO S7 w7 (.slice A7 0 c7) [] at hrd7
    have hbw7 : Below w.heap.size w w7 := hbv6.trans (hbx.mono hbv6.size)
    have B1 := (HB1.out.next hbx).alloc (.cells #[.int .i64 n, .slice A7 0 c7] 24)
    have BP := (HBP.out.next hbx).alloc (.cells #[.int .i64 n, .slice A7 0 c7] 24)
    have BN := (HBN.out.next hbx).alloc (.cells #[.int .i64 n, .slice A7 0 c7] 24)
    have BB := (HBB.out.next hbx).alloc (.cells #[.int .i64 n, .slice A7 0 c7] 24)
    have BX := (HBX.out.next hbx).alloc (.cells #[.int .i64 n, .slice A7 0 c7] 24)
    have BY := BoxC.new (c := ⟨n, []⟩) hrd7
    have hbv7 : Below w.heap.size w (w7.alloc (.cells #[.int .i64 n, .slice A7 0 c7] 24)) := hbw7.alloc hbw7.size _
    clear hbx kk bn0 bn1 b10 b11 HB1 HBP HBN HBB HBX
    have b10 := B1.c0
    have b11 := B1.c1
    dsimp only at b10 b11
    have kk := cP' _ B1.rd (hT.below hbv7)
    have HB1 := Lib.hid B1
    have HBP := Lib.hid BP
    have HBN := Lib.hid BN
    have HBB := Lib.hid BB
    have HBX := Lib.hid BX
    have HBY := Lib.hid BY
    clear B1 BP BN BB BX BY
    go_wp2_with fail
    with_reducible refine kk.mono ?_
    rintro e w8 ⟨v8, rfl, hbx, hr8⟩
    obtain ⟨S8, hrd8⟩ : ∃ S8, Rd KO S8 w8 v8 nl := ⟨_, hr8.rd⟩
    obtain ⟨A8, c8, rfl, hA8, hs8⟩ := hr8.rd
    dsimp only
    have hbw8 : Below w.heap.size w w8 := hbv7.trans (hbx.mono hbv7.size)
    have B1 := (HB1.out.next hbx).alloc (.cells #[.int .i64 f, .slice A8 nl.length c8] 24)
    have BP := (HBP.out.next hbx).alloc (.cells #[.int .i64 f, .slice A8 nl.length c8] 24)
    have BN := (HBN.out.next hbx).alloc (.cells #[.int .i64 f, .slice A8 nl.length c8] 24)
    have BB := (HBB.out.next hbx).alloc (.cells #[.int .i64 f, .slice A8 nl.length c8] 24)
    have BX := (HBX.out.next hbx).alloc (.cells #[.int .i64 f, .slice A8 nl.length c8] 24)
    have BY := (HBY.out.next hbx).alloc (.cells #[.int .i64 f, .slice A8 nl.length c8] 24)
    have BZ := BoxC.new (c := ⟨f, nl⟩) hrd8
    have hbv8 : Below w.heap.size w (w8.alloc (.cells #[.int .i64 f, .slice A8 nl.length c8] 24)) := hbw8.alloc hbw8.size _
    clear hbx kk b10 b11 HB1 HBP HBN HBB HBX HBY
    clear B1 BN
    have bx0 := BX.c0
    have bx1 := BX.c1
    have bp0 := BP.c0
    have bp1 := BP.c1
    dsimp only at bx0 bx1 bp0 bp1
    have kk := cS1 _ _ _ _ _ BX.rd BP.rd
    have HBP := Lib.hid BP
    have HBB := Lib.hid BB
    have HBX := Lib.hid BX
    have HBY := Lib.hid BY
    have HBZ := Lib.hid BZ
    clear BP BB BX BY BZ
    go_wp2_with fail
    with_reducible refine kk.mono ?_
    rintro e w9 ⟨rfl, hbx⟩
    have hbw9 : Below w.heap.size w w9 := hbv8.trans (hbx.mono hbv8.size)
    have BP := HBP.out.next hbx
    have BB := HBB.out.next hbx
    have BX := HBX.out.next hbx
    have BY := HBY.out.next hbx
    have BZ := HBZ.out.next hbx
    clear hbx kk HBP HBB HBX HBY HBZ bx0 bx1 bp0 bp1
    have by0 := BY.c0
    have by1 := BY.c1
    have bb0 := BB.c0
    have bb1 := BB.c1
    dsimp only at by0 by1 bb0 bb1
    have kk := cS2 _ _ _ _ _ BY.rd BB.rd
    have HBP := Lib.hid BP
    have HBB := Lib.hid BB
    have HBX := Lib.hid BX
    have HBY := Lib.hid BY
    have HBZ := Lib.hid BZ
    clear BP BB BX BY BZ
    go_wp2_with fail
    with_reducible refine kk.mono ?_
    rintro e w10 ⟨rfl, hbx⟩
    have hbw10 : Below w.heap.size w w10 := hbw9.trans (hbx.mono hbw9.size)
    have BP := HBP.out.next hbx
    have BB := HBB.out.next hbx
    have BX := HBX.out.next hbx
    have BY := HBY.out.next hbx
    have BZ := HBZ.out.next hbx
    clear hbx kk HBP HBB HBX HBY HBZ by0 by1 bb0 bb1
    have bz0 := BZ.c0
    have bz1 := BZ.c1
    have bp0 := BP.c0
    have bp1 := BP.c1
    dsimp only at bz0 bz1 bp0 bp1
    have kk := cS1 _ _ _ _ _ BZ.rd BP.rd
    have HBP := Lib.hid BP
    have HBB := Lib.hid BB
    have HBX := Lib.hid BX
    have HBY := Lib.hid BY
    have HBZ := Lib.hid BZ
    clear BP BB BX BY BZ
    go_wp2_with fail
    with_reducible refine kk.mono ?_
    rintro e w11 ⟨rfl, hbx⟩
    have hbw11 : Below w.heap.size w w11 := hbw10.trans (hbx.mono hbw10.size)
    clear hbx kk HBP HBB HBX HBY HBZ bz0 bz1 bp0 bp1
    go_wp2_with fail
    go_ret
    exact ⟨rfl, hbw11⟩
  · have heb : (er != 0) = true := by simp [he]
    have e3 : nmR ⟨f, l⟩ = (⟨0, []⟩, er) := by unfold nmR; rw [HR.out, if_neg he]
    rw [e3] at k2
    have HE := Lib.hid he
    clear he e3 cF1 cF2 cP cH
    go_wp2_with fail
    with_reducible refine k2.mono ?_
    rintro e w3 ⟨v3, rfl, hb3, hr3⟩
    obtain ⟨A3, c3, rfl, hA3, hs3⟩ := hr3.rd
    dsimp only
    have hbw3 : Below w.heap.size w w3 := hbw2.trans (hb3.mono hbw2.size)
    clear a0 a1 k2 hr3 hs3 hb3
    go_wp2_with fail
    go_ret
    exact ⟨by simp, hbw3.alloc hbw3.size _⟩
end Go.Proofs.YtaemajcpgmaapaaDoor

namespace Go.Proofs.YtaemajcpgmaapaaDoor
open Go.RowKit

def allGo : Change × Int → List Change → Change × Int
  | r, [] => r
  | r, x :: l => if r.2 ≠ 0 then r else allGo (cmpR r.1 x) l
/-- What is answered behind the loop. -/
def shutR (r : Change × Int) : Change × Int := if r.2 ≠ 0 then (⟨0, []⟩, r.2) else (r.1, 0)
/-- compose.All. -/
def allR (n : Int) (l : List Change) : Change × Int := shutR (allGo (nothR n) l)
theorem allGo_err {r : Change × Int} (h : r.2 ≠ 0) : ∀ l, allGo r l = r
  | [] => rfl
  | x :: l => by unfold allGo; rw [if_pos h]
def pastGo : Change × Int → List Change → Change × Int
  | r, [] => r
  | r, x :: l => if r.2 ≠ 0 then r else pastGo (folR false x r.1) l
/-- follow.Past. -/
def pastR (l : List Change) (b : Change) : Change × Int := shutR (pastGo (nmR b) l)
theorem pastGo_err {r : Change × Int} (h : r.2 ≠ 0) : ∀ l, pastGo r l = r
  | [] => rfl
  | x :: l => by unfold pastGo; rw [if_pos h]

theorem all_end {w W : World} (hb : Below w.heap.size w W) (hres : W.heap[w.heap.size]? = some (.cells #[.int .i64 0, .slice none 0 0] 24 (0, 0))) (a : Act) (R : Change × Int) (u : Value)
    (hr : RowO w.heap.size W u R.1.ops) (h7 : a.tmps[5]?.getD undef = .int .i64 R.2) (h6 : a.tmps[4]?.getD undef = .pointer (some ⟨w.heap.size, 0, none⟩)) (hd : a.defers = []) :
    bodyPost Tryd.prog Tryd.f56 (ChQ w R) .ret a ((W.setCell ⟨w.heap.size, 0, none⟩ (.int .i64 R.1.from_)).setCell ⟨w.heap.size, 1, none⟩ u) := by
  have k5 : W.cell? ⟨w.heap.size, 0, none⟩ = some (.int .i64 0) := cell_of_row _ _ 0 _ _ _ hres
  have k6 : W.cell? ⟨w.heap.size, 1, none⟩ = some (.slice none 0 0) := cell_of_row _ _ 1 _ _ _ hres
  have r0 : ((W.setCell ⟨w.heap.size, 0, none⟩ (.int .i64 R.1.from_)).setCell ⟨w.heap.size, 1, none⟩ u).cell? ⟨w.heap.size, 0, none⟩ = some (.int .i64 R.1.from_) := (World.cell?_setCell_other _ _ _ _ (by simp)).trans (World.cell?_setCell_same _ _ _ k5)
  have r1 : ((W.setCell ⟨w.heap.size, 0, none⟩ (.int .i64 R.1.from_)).setCell ⟨w.heap.size, 1, none⟩ u).cell? ⟨w.heap.size, 1, none⟩ = some u := World.cell?_setCell_same _ _ _ ((World.cell?_setCell_other _ _ _ _ (by simp)).trans k6)
  have hc : Chg (fun k => k = w.heap.size) W ((W.setCell ⟨w.heap.size, 0, none⟩ (.int .i64 R.1.from_)).setCell ⟨w.heap.size, 1, none⟩ u) :=
    ((Chg.refl (fun k => k = w.heap.size) W).setCell (p := ⟨w.heap.size, 0, none⟩) _ fun _ => rfl).setCell (p := ⟨w.heap.size, 1, none⟩) _ fun _ => rfl
  refine bodyPost_ret (v := .tuple #[.agg #[.int .i64 R.1.from_, u], .int .i64 R.2]) ?_ hd ⟨u, rfl, hb.trans (hc.below hb.size fun k hk => by rw [hk]; omega), hr.off hres (by decide) (by decide) hc⟩
  simp [results, Tryd.results56, go_sem, r0, r1, h7, h6]

/-- What the loops hold: the box that is turned in each round, the answer's. -/
structure RInv (w wr : World) (rs cb : Nat) (v : Value) (r : Change × Int) : Prop where
  below : Below w.heap.size w wr
  res : wr.heap[rs]? = some (.cells #[.int .i64 0, .slice none 0 0] 24 (0, 0))
  box : wr.heap[cb]? = some (.cells #[.int .i64 r.1.from_, v] 24 (0, 0))
  row : RowO w.heap.size wr v r.1.ops
  lc : w.heap.size ≤ cb
  lr : w.heap.size ≤ rs
  ne : rs ≠ cb
section
variable {w wr w' : World} {rs cb : Nat} {v : Value} {r : Change × Int}
theorem RInv.far (h : RInv w wr rs cb v r) (hb : Below wr.heap.size wr w') : RInv w w' rs cb v r :=
  ⟨h.below.trans (hb.mono h.below.size), (hb.block _ (Array.getElem?_eq_some_iff.1 h.res).1).trans h.res, (hb.block _ (Array.getElem?_eq_some_iff.1 h.box).1).trans h.box, h.row.below hb, h.lc, h.lr, h.ne⟩
theorem RInv.turn (h : RInv w wr rs cb v r) {u : Value} {q : Change × Int} (hr : RowO w.heap.size wr u q.1.ops) : RInv w ((wr.setCell ⟨cb, 0, none⟩ (.int .i64 q.1.from_)).setCell ⟨cb, 1, none⟩ u) rs cb u q := by
  have hc : Chg (fun k => k = cb) wr ((wr.setCell ⟨cb, 0, none⟩ (.int .i64 q.1.from_)).setCell ⟨cb, 1, none⟩ u) :=
    ((Chg.refl (fun k => k = cb) wr).setCell (p := ⟨cb, 0, none⟩) _ fun _ => rfl).setCell (p := ⟨cb, 1, none⟩) _ fun _ => rfl
  exact ⟨h.below.trans (hc.below h.below.size fun k hk => by rw [hk]; exact h.lc), (hc.block _ (Array.getElem?_eq_some_iff.1 h.res).1 h.ne).trans h.res,
    heap_setCell_same _ cb 1 _ _ _ (heap_setCell_same wr cb 0 _ _ _ h.box), hr.off h.box (by decide) (by decide) hc, h.lc, h.lr, h.ne⟩
end

theorem past_end {w W : World} (hb : Below w.heap.size w W) (hres : W.heap[w.heap.size + 1]? = some (.cells #[.int .i64 0, .slice none 0 0] 24 (0, 0))) (a : Act) (R : Change × Int) (u : Value)
    (hr : RowO w.heap.size W u R.1.ops) (h7 : a.tmps[5]?.getD undef = .int .i64 R.2) (h6 : a.tmps[4]?.getD undef = .pointer (some ⟨w.heap.size + 1, 0, none⟩)) (hd : a.defers = []) :
    bodyPost Tryd.prog Tryd.f32 (ChQ w R) .ret a ((W.setCell ⟨w.heap.size + 1, 0, none⟩ (.int .i64 R.1.from_)).setCell ⟨w.heap.size + 1, 1, none⟩ u) := by
  have k5 : W.cell? ⟨w.heap.size + 1, 0, none⟩ = some (.int .i64 0) := cell_of_row _ _ 0 _ _ _ hres
  have k6 : W.cell? ⟨w.heap.size + 1, 1, none⟩ = some (.slice none 0 0) := cell_of_row _ _ 1 _ _ _ hres
  have r0 : ((W.setCell ⟨w.heap.size + 1, 0, none⟩ (.int .i64 R.1.from_)).setCell ⟨w.heap.size + 1, 1, none⟩ u).cell? ⟨w.heap.size + 1, 0, none⟩ = some (.int .i64 R.1.from_) := (World.cell?_setCell_other _ _ _ _ (by simp)).trans (World.cell?_setCell_same _ _ _ k5)
  have r1 : ((W.setCell ⟨w.heap.size + 1, 0, none⟩ (.int .i64 R.1.from_)).setCell ⟨w.heap.size + 1, 1, none⟩ u).cell? ⟨w.heap.size + 1, 1, none⟩ = some u := World.cell?_setCell_same _ _ _ ((World.cell?_setCell_other _ _ _ _ (by simp)).trans k6)
  have hc : Chg (fun k => k = w.heap.size + 1) W ((W.setCell ⟨w.heap.size + 1, 0, none⟩ (.int .i64 R.1.from_)).setCell ⟨w.heap.size + 1, 1, none⟩ u) :=
    ((Chg.refl (fun k => k = w.heap.size + 1) W).setCell (p := ⟨w.heap.size + 1, 0, none⟩) _ fun _ => rfl).setCell (p := ⟨w.heap.size + 1, 1, none⟩) _ fun _ => rfl
  refine bodyPost_ret (v := .tuple #[.agg #[.int .i64 R.1.from_, u], .int .i64 R.2]) ?_ hd ⟨u, rfl, hb.trans (hc.below hb.size fun k hk => by rw [hk]; omega), hr.off hres (by decide) (by decide) hc⟩
  simp [results, Tryd.results32, go_sem, r0, r1, h7, h6]

set_option maxRecDepth 100000 in
set_option maxHeartbeats 4000000 in
theorem all_any (n : Int) (v : Value) (l : List Change) (S : Nat → Prop) (w : World) (h : Rd KC S w v l) (hT : Tabs w) :
    Calls Tryd.prog 56 #[.int .i64 n, v] w (ChQ w (allR n l)) := by
  obtain ⟨A, c, rfl, hA, hr⟩ := h
  have hlen := hr.len
  have cN := fun W => noth_any n W
  have hb0 : Below w.heap.size w (w.alloc (.cells #[.int .i64 0, .slice none 0 0] 24)) := (Below.refl _ _).alloc (Nat.le_refl _) _
  have g0 := heap_alloc_new w (.cells #[.int .i64 0, .slice none 0 0] 24)
  obtain ⟨R, HR⟩ : ∃ R, Hid (allR n l = R) := ⟨_, rfl⟩
  rw [HR.out]
  have HRR : Hid (R = shutR (allGo (nothR n) l)) := HR.out.symm
  have hno : (nothR n).1.ops = [] := by unfold nothR; split <;> rfl
  have HR2 : Hid (R = shutR (allGo (nothR n) (l.drop 0))) := HRR
  clear HR HRR
  generalize nothR n = r0 at *
  obtain ⟨⟨nf, no⟩, ne⟩ := r0
  dsimp only at hno
  subst hno
  have HB0 := Lib.hid hb0
  have HG0 := Lib.hid g0
  clear hb0 g0
  go_enter Tryd.func56, Tryd.ntmps56
  go_wp2_with fail
  with_reducible refine (cN _).mono ?_
  rintro e w1 ⟨rfl, hb1⟩
  dsimp only
  have hbw1 : Below w.heap.size w w1 := HB0.out.trans (hb1.mono HB0.out.size)
  have hres1 := (hb1.block _ (by simp)).trans HG0.out
  have hlt1 : w.heap.size < w1.heap.size := (Array.getElem?_eq_some_iff.1 hres1).1
  have inv0 : RInv w (w1.alloc (.cells #[.int .i64 nf, .slice none 0 0] 24)) w.heap.size w1.heap.size (.slice none 0 0) (⟨nf, []⟩, ne) :=
    ⟨hbw1.alloc hbw1.size _, (Below.heap_alloc w1 _ _ hlt1).trans hres1, heap_alloc_new w1 _, RowO.nil _ _, by omega, Nat.le_refl _, by omega⟩
  have HI0 := Lib.hid inv0
  clear cN hb1 hbw1 hres1 inv0 HB0 HG0
  go_wp2_with fail
  go_loopg [7, 17] (l.length + 1) (fun g s7 s17 wr => ∃ (k : Nat) (v : Value) (rf : Int) (ro : List Op) (re : Int), k ≤ l.length ∧ l.length - k < g ∧ s7 = .int .i64 re ∧ s17 = .int .i64 k ∧ RInv w wr w.heap.size w1.heap.size v (⟨rf, ro⟩, re) ∧ Hid (R = shutR (allGo (⟨rf, ro⟩, re) (l.drop k))))
  case atStart => exact ⟨0, _, _, _, _, Nat.zero_le _, by omega, rfl, rfl, HI0.out, HR2⟩
  case round =>
    obtain ⟨k, v, rf, ro, re, hk, hg, rfl, rfl, inv, HK⟩ := hrel
    obtain ⟨Av, nv, ev, hAv, hrv⟩ := inv.row.rd
    dsimp only at ev hAv hrv
    subst ev
    have b0 : wr.cell? ⟨w1.heap.size, 0, none⟩ = some (.int .i64 rf) := cell_of_row _ _ 0 _ _ _ inv.box
    have b1 : wr.cell? ⟨w1.heap.size, 1, none⟩ = some (.slice Av ro.length nv) := cell_of_row _ _ 1 _ _ _ inv.box
    have bz : ∀ j, wr.frozen? ⟨w1.heap.size, j, none⟩ = false := fun j => frozen_of_row _ _ j _ _ inv.box
    have a0 : wr.cell? ⟨w.heap.size, 0, none⟩ = some (.int .i64 0) := cell_of_row _ _ 0 _ _ _ inv.res
    have a1 : wr.cell? ⟨w.heap.size, 1, none⟩ = some (.slice none 0 0) := cell_of_row _ _ 1 _ _ _ inv.res
    have az : ∀ j, wr.frozen? ⟨w.heap.size, j, none⟩ = false := fun j => frozen_of_row _ _ j _ _ inv.res
    by_cases hkl : k < l.length
    · have hr' := hr.keep inv.below.size fun k _ hk => inv.below.block k hk
      obtain ⟨b, o, A2, c2, rfl, _, _, x0, x1, hx⟩ := hr'.chg k hkl
      have hdrop : l.drop k = l[k] :: l.drop (k + 1) := List.drop_eq_getElem_cons hkl
      rw [hdrop] at HK
      obtain ⟨x, HX⟩ : ∃ x, Hid (l[k] = x) := ⟨l[k], (rfl : l[k] = l[k])⟩
      obtain ⟨xf, xo⟩ := x
      rw [HX.out] at x0 x1 hx HK
      dsimp only at x0 x1 hx
      clear hdrop hr' hrv
      have hbx : ∀ o, Below wr.heap.size wr (wr.alloc o) := fun o => (Below.refl _ _).alloc (Nat.le_refl _) o
      have HI := Lib.hid inv
      have ncb : w1.heap.size ≠ wr.heap.size := by have := (Array.getElem?_eq_some_iff.1 inv.box).1; omega
      have nrb : w.heap.size ≠ wr.heap.size := by have := (Array.getElem?_eq_some_iff.1 inv.res).1; omega
      have e0 : ∀ o, (wr.alloc o).cell? ⟨w1.heap.size, 0, none⟩ = some (.int .i64 rf) := fun o => cell_of_row _ _ 0 _ _ _ (inv.far (hbx o)).box
      have e1 : ∀ o, (wr.alloc o).cell? ⟨w1.heap.size, 1, none⟩ = some (.slice Av ro.length nv) := fun o => cell_of_row _ _ 1 _ _ _ (inv.far (hbx o)).box
      have g0 : ∀ o, (wr.alloc o).cell? ⟨w.heap.size, 0, none⟩ = some (.int .i64 0) := fun o => cell_of_row _ _ 0 _ _ _ (inv.far (hbx o)).res
      have g1 : ∀ o, (wr.alloc o).cell? ⟨w.heap.size, 1, none⟩ = some (.slice none 0 0) := fun o => cell_of_row _ _ 1 _ _ _ (inv.far (hbx o)).res
      have gz : ∀ o j, (wr.alloc o).frozen? ⟨w.heap.size, j, none⟩ = false := fun o j => frozen_of_row _ _ j _ _ (inv.far (hbx o)).res
      clear b0 b1 bz a0 a1 az
      by_cases hre : re = 0
      · subst hre
        have HE : Hid (R = shutR (allGo (cmpR ⟨rf, ro⟩ ⟨xf, xo⟩) (l.drop (k + 1)))) := by
          rw [Hid, HK.out, allGo, if_neg (by simp)]
        have kC := fun o => compose_any rf xf (.slice Av ro.length nv) (.slice A2 xo.length c2) ro xo _ _ (wr.alloc o) (inv.far (hbx o)).row.rd (hx.below (hbx o)) (hT.below (inv.far (hbx o)).below)
        change ∀ o, Calls _ _ _ _ (ChQ _ (cmpR ⟨rf, ro⟩ ⟨xf, xo⟩)) at kC
        generalize cmpR ⟨rf, ro⟩ ⟨xf, xo⟩ = q at *
        obtain ⟨⟨qf, qo⟩, qe⟩ := q
        clear inv HK hx
        go_wp2_with fail
        with_reducible refine (kC _).mono ?_
        rintro e w3 ⟨v3, rfl, hb3, hr3⟩
        dsimp only
        have inv3 := (HI.out.far (hbx _)).far hb3
        obtain ⟨A3, c3, rfl, _, _⟩ := hr3.rd
        dsimp only at hr3
        have inv4 := inv3.turn (u := .slice A3 qo.length c3) (q := (⟨qf, qo⟩, qe)) (hr3.mono (by have := HI.out.below.size; simp; omega))
        have d0 : w3.cell? ⟨w1.heap.size, 0, none⟩ = some (.int .i64 rf) := cell_of_row _ _ 0 _ _ _ inv3.box
        have d1 : w3.cell? ⟨w1.heap.size, 1, none⟩ = some (.slice Av ro.length nv) := cell_of_row _ _ 1 _ _ _ inv3.box
        have dz : ∀ j, w3.frozen? ⟨w1.heap.size, j, none⟩ = false := fun j => frozen_of_row _ _ j _ _ inv3.box
        have HI4 := Lib.hid inv4
        clear inv3 inv4 hr3 hb3 kC hbx HI e0 e1 g0 g1 gz
        go_wp2_with fail
        go_roundg (l.length - k)
        case measure => omega
        case rel => exact ⟨k + 1, _, qf, qo, qe, by omega, by omega, rfl, by go_num, HI4.out, HE⟩
      · have hrb : (re != 0) = true := by simp [hre]
        have HE : Hid (R = (⟨0, []⟩, re)) := by rw [Hid, HK.out, allGo_err hre]; unfold shutR; rw [if_pos hre]
        have HIx := Lib.hid (fun o => inv.far (hbx o))
        clear inv HK hre hx hbx
        go_wp2_with fail
        rw [HE.out]
        exact all_end (HIx.out _).below (HIx.out _).res _ (⟨0, []⟩, re) _ (RowO.nil _ _) rfl rfl rfl
    · obtain rfl : k = l.length := by omega
      rw [List.drop_length] at HK
      have HI := Lib.hid inv
      by_cases hre : re = 0
      · subst hre
        have HE : Hid (R = (⟨rf, ro⟩, 0)) := HK
        clear inv hrv HK
        go_wp2_with fail
        rw [HE.out]
        exact all_end HI.out.below HI.out.res _ (⟨rf, ro⟩, 0) _ HI.out.row rfl rfl rfl
      · have hrb : (re != 0) = true := by simp [hre]
        have HE : Hid (R = (⟨0, []⟩, re)) := by rw [Hid, HK.out]; unfold allGo shutR; rw [if_pos hre]
        clear inv hrv HK hre
        go_wp2_with fail
        rw [HE.out]
        exact all_end HI.out.below HI.out.res _ (⟨0, []⟩, re) _ (RowO.nil _ _) rfl rfl rfl
set_option maxRecDepth 100000 in
set_option maxHeartbeats 4000000 in
theorem past_any (v vb : Value) (l : List Change) (fb : Int) (lb : List Op) (S Sb : Nat → Prop) (w : World) (h : Rd KC S w v l) (hb : Rd KO Sb w vb lb) (hT : Tabs w) :
    Calls Tryd.prog 32 #[v, .agg #[.int .i64 fb, vb]] w (ChQ w (pastR l ⟨fb, lb⟩)) := by
  obtain ⟨A, c, rfl, hA, hr⟩ := h
  have hlen := hr.len
  have hb0 : Below w.heap.size w ((w.alloc (.cells #[.int .i64 fb, vb] 24)).alloc (.cells #[.int .i64 0, .slice none 0 0] 24)) := ((Below.refl _ _).alloc (Nat.le_refl _) _).alloc (by simp) _
  have g0 : ((w.alloc (.cells #[.int .i64 fb, vb] 24)).alloc (.cells #[.int .i64 0, .slice none 0 0] 24)).heap[w.heap.size + 1]? = some (.cells #[.int .i64 0, .slice none 0 0] 24 (0, 0)) := by
    simpa using heap_alloc_new (w.alloc (.cells #[.int .i64 fb, vb] 24)) (.cells #[.int .i64 0, .slice none 0 0] 24)
  have cN := normal_ch fb vb lb Sb _ (hb.below hb0) (hT.below hb0)
  change Calls _ _ _ _ (ChQ _ (nmR ⟨fb, lb⟩)) at cN
  obtain ⟨R, HR⟩ : ∃ R, Hid (pastR l ⟨fb, lb⟩ = R) := ⟨_, rfl⟩
  rw [HR.out]
  have HRR : Hid (R = shutR (pastGo (nmR ⟨fb, lb⟩) l)) := HR.out.symm
  have HR2 : Hid (R = shutR (pastGo (nmR ⟨fb, lb⟩) (l.drop 0))) := HRR
  clear HR HRR
  generalize nmR ⟨fb, lb⟩ = r0 at *
  obtain ⟨⟨nf, no⟩, ne⟩ := r0
  obtain ⟨Ab, cb, rfl, hAb, hrb⟩ := hb
  have kN := Lib.hid cN
  clear cN hrb
  have HB0 := Lib.hid hb0
  have HG0 := Lib.hid g0
  clear hb0 g0
  go_enter Tryd.func32, Tryd.ntmps32
  go_wp2_with fail
  with_reducible refine kN.out.mono ?_
  rintro e w1 ⟨v1, rfl, hb1, hr1⟩
  obtain ⟨A1, c1, rfl, _, _⟩ := hr1.rd
  dsimp only at hr1 ⊢
  have hbw1 : Below w.heap.size w w1 := HB0.out.trans (hb1.mono HB0.out.size)
  have hres1 := (hb1.block _ (by simp)).trans HG0.out
  have hlt1 : w.heap.size + 1 < w1.heap.size := (Array.getElem?_eq_some_iff.1 hres1).1
  have inv0 : RInv w (w1.alloc (.cells #[.int .i64 nf, .slice A1 no.length c1] 24)) (w.heap.size + 1) w1.heap.size (.slice A1 no.length c1) (⟨nf, no⟩, ne) :=
    ⟨hbw1.alloc hbw1.size _, (Below.heap_alloc w1 _ _ hlt1).trans hres1, heap_alloc_new w1 _, (hr1.mono (by simp; omega)).below ((Below.refl _ _).alloc (Nat.le_refl _) _), by omega, by omega, by omega⟩
  have HI0 := Lib.hid inv0
  clear kN hb1 hbw1 hres1 inv0 HB0 HG0 hr1
  go_wp2_with fail
  go_loopg [7, 17] (l.length + 1) (fun g s7 s17 wr => ∃ (k : Nat) (v : Value) (rf : Int) (ro : List Op) (re : Int), k ≤ l.length ∧ l.length - k < g ∧ s7 = .int .i64 re ∧ s17 = .int .i64 k ∧ RInv w wr (w.heap.size + 1) w1.heap.size v (⟨rf, ro⟩, re) ∧ Hid (R = shutR (pastGo (⟨rf, ro⟩, re) (l.drop k))))
  case atStart => exact ⟨0, _, _, _, _, Nat.zero_le _, by omega, rfl, rfl, HI0.out, HR2⟩
  case round =>
    obtain ⟨k, v, rf, ro, re, hk, hg, rfl, rfl, inv, HK⟩ := hrel
    obtain ⟨Av, nv, ev, hAv, hrv⟩ := inv.row.rd
    dsimp only at ev hAv hrv
    subst ev
    have b0 : wr.cell? ⟨w1.heap.size, 0, none⟩ = some (.int .i64 rf) := cell_of_row _ _ 0 _ _ _ inv.box
    have b1 : wr.cell? ⟨w1.heap.size, 1, none⟩ = some (.slice Av ro.length nv) := cell_of_row _ _ 1 _ _ _ inv.box
    have bz : ∀ j, wr.frozen? ⟨w1.heap.size, j, none⟩ = false := fun j => frozen_of_row _ _ j _ _ inv.box
    have a0 : wr.cell? ⟨w.heap.size + 1, 0, none⟩ = some (.int .i64 0) := cell_of_row _ _ 0 _ _ _ inv.res
    have a1 : wr.cell? ⟨w.heap.size + 1, 1, none⟩ = some (.slice none 0 0) := cell_of_row _ _ 1 _ _ _ inv.res
    have az : ∀ j, wr.frozen? ⟨w.heap.size + 1, j, none⟩ = false := fun j => frozen_of_row _ _ j _ _ inv.res
    by_cases hkl : k < l.length
    · have hr' := hr.keep inv.below.size fun k _ hk => inv.below.block k hk
      obtain ⟨b, o, A2, c2, rfl, _, _, x0, x1, hx⟩ := hr'.chg k hkl
      have hdrop : l.drop k = l[k] :: l.drop (k + 1) := List.drop_eq_getElem_cons hkl
      rw [hdrop] at HK
      obtain ⟨x, HX⟩ : ∃ x, Hid (l[k] = x) := ⟨l[k], (rfl : l[k] = l[k])⟩
      obtain ⟨xf, xo⟩ := x
      rw [HX.out] at x0 x1 hx HK
      dsimp only at x0 x1 hx
      clear hdrop hr' hrv
      have hbx : ∀ o, Below wr.heap.size wr (wr.alloc o) := fun o => (Below.refl _ _).alloc (Nat.le_refl _) o
      have HI := Lib.hid inv
      have ncb : w1.heap.size ≠ wr.heap.size := by have := (Array.getElem?_eq_some_iff.1 inv.box).1; omega
      have nrb : w.heap.size + 1 ≠ wr.heap.size := by have := (Array.getElem?_eq_some_iff.1 inv.res).1; omega
      have e0 : ∀ o, (wr.alloc o).cell? ⟨w1.heap.size, 0, none⟩ = some (.int .i64 rf) := fun o => cell_of_row _ _ 0 _ _ _ (inv.far (hbx o)).box
      have e1 : ∀ o, (wr.alloc o).cell? ⟨w1.heap.size, 1, none⟩ = some (.slice Av ro.length nv) := fun o => cell_of_row _ _ 1 _ _ _ (inv.far (hbx o)).box
      have g0 : ∀ o, (wr.alloc o).cell? ⟨w.heap.size + 1, 0, none⟩ = some (.int .i64 0) := fun o => cell_of_row _ _ 0 _ _ _ (inv.far (hbx o)).res
      have g1 : ∀ o, (wr.alloc o).cell? ⟨w.heap.size + 1, 1, none⟩ = some (.slice none 0 0) := fun o => cell_of_row _ _ 1 _ _ _ (inv.far (hbx o)).res
      have gz : ∀ o j, (wr.alloc o).frozen? ⟨w.heap.size + 1, j, none⟩ = false := fun o j => frozen_of_row _ _ j _ _ (inv.far (hbx o)).res
      clear b0 b1 bz a0 a1 az
      by_cases hre : re = 0
      · subst hre
        have HE : Hid (R = shutR (pastGo (folR false ⟨xf, xo⟩ ⟨rf, ro⟩) (l.drop (k + 1)))) := by
          rw [Hid, HK.out, pastGo, if_neg (by simp)]
        have kC := fun o => follow_any xf rf (.slice A2 xo.length c2) (.slice Av ro.length nv) xo ro _ _ false (wr.alloc o) (hx.below (hbx o)) (inv.far (hbx o)).row.rd (hT.below (inv.far (hbx o)).below)
        change ∀ o, Calls _ _ _ _ (ChQ _ (folR false ⟨xf, xo⟩ ⟨rf, ro⟩)) at kC
        generalize folR false ⟨xf, xo⟩ ⟨rf, ro⟩ = q at *
        obtain ⟨⟨qf, qo⟩, qe⟩ := q
        clear inv HK hx
        go_wp2_with fail
        with_reducible refine (kC _).mono ?_
        rintro e w3 ⟨v3, rfl, hb3, hr3⟩
        dsimp only
        have inv3 := (HI.out.far (hbx _)).far hb3
        obtain ⟨A3, c3, rfl, _, _⟩ := hr3.rd
        dsimp only at hr3
        have inv4 := inv3.turn (u := .slice A3 qo.length c3) (q := (⟨qf, qo⟩, qe)) (hr3.mono (by have := HI.out.below.size; simp; omega))
        have d0 : w3.cell? ⟨w1.heap.size, 0, none⟩ = some (.int .i64 rf) := cell_of_row _ _ 0 _ _ _ inv3.box
        have d1 : w3.cell? ⟨w1.heap.size, 1, none⟩ = some (.slice Av ro.length nv) := cell_of_row _ _ 1 _ _ _ inv3.box
        have dz : ∀ j, w3.frozen? ⟨w1.heap.size, j, none⟩ = false := fun j => frozen_of_row _ _ j _ _ inv3.box
        have HI4 := Lib.hid inv4
        clear inv3 inv4 hr3 hb3 kC hbx HI e0 e1 g0 g1 gz
        go_wp2_with fail
        go_roundg (l.length - k)
        case measure => omega
        case rel => exact ⟨k + 1, _, qf, qo, qe, by omega, by omega, rfl, by go_num, HI4.out, HE⟩
      · have hrb : (re != 0) = true := by simp [hre]
        have HE : Hid (R = (⟨0, []⟩, re)) := by rw [Hid, HK.out, pastGo_err hre]; unfold shutR; rw [if_pos hre]
        have HIx := Lib.hid (fun o => inv.far (hbx o))
        clear inv HK hre hx hbx
        go_wp2_with fail
        rw [HE.out]
        exact past_end (HIx.out _).below (HIx.out _).res _ (⟨0, []⟩, re) _ (RowO.nil _ _) rfl rfl rfl
    · obtain rfl : k = l.length := by omega
      rw [List.drop_length] at HK
      have HI := Lib.hid inv
      by_cases hre : re = 0
      · subst hre
        have HE : Hid (R = (⟨rf, ro⟩, 0)) := HK
        clear inv hrv HK
        go_wp2_with fail
        rw [HE.out]
        exact past_end HI.out.below HI.out.res _ (⟨rf, ro⟩, 0) _ HI.out.row rfl rfl rfl
      · have hrb : (re != 0) = true := by simp [hre]
        have HE : Hid (R = (⟨0, []⟩, re)) := by rw [Hid, HK.out]; unfold pastGo shutR; rw [if_pos hre]
        clear inv hrv HK hre
        go_wp2_with fail
        rw [HE.out]
        exact past_end HI.out.below HI.out.res _ (⟨0, []⟩, re) _ (RowO.nil _ _) rfl rfl rfl
end Go.Proofs.YtaemajcpgmaapaaDoor

namespace Go.Proofs.YtaemajcpgmaapaaDoor
open Go.RowKit

def ccells (ps : List (Change × Value)) : List Value := ps.flatMap fun p => [.int .i64 p.1.from_, p.2]
theorem ccells_at (ps : List (Change × Value)) (k : Nat) (hk : k < ps.length) : (ccells ps)[k * 2]? = some (.int .i64 ps[k].1.from_) ∧ (ccells ps)[k * 2 + 1]? = some ps[k].2 := by
  induction ps generalizing k with
  | nil => simp at hk
  | cons a l ih =>
    cases k with
    | zero => exact ⟨rfl, rfl⟩
    | succ k =>
      have := ih k (by simpa using hk)
      have e1 : (k + 1) * 2 = (k * 2) + 1 + 1 := by omega
      simp only [ccells, List.flatMap_cons] at this ⊢
      rw [e1]
      simpa using this
/-- Changesets in a row laid by a literal. -/
theorem rd_chgs {w : World} {B n : Nat} {cs : Array Value} {fr : Nat × Nat} {ps : List (Change × Value)} (h : w.heap[B]? = some (.cells cs 24 fr)) (hc : cs = (ccells ps).toArray) (hn : n = ps.length) (hs : n ≤ 1000) (hr : ∀ p ∈ ps, ∃ S, Rd KO S w p.2 p.1.ops) :
    Rd KC (fun _ => True) w (.slice (some ⟨B, 0, none⟩) n n) (ps.map (·.1)) := by
  subst hc hn
  refine ⟨some ⟨B, 0, none⟩, ps.length, by simp, ⟨by simp, by simp⟩, by simp [KC]; omega, fun k hk => ?_⟩
  have hk' : k < ps.length := by simpa using hk
  obtain ⟨h0, h1⟩ := ccells_at ps k hk'
  obtain ⟨S, hS⟩ := hr ps[k] (List.getElem_mem hk')
  refine ⟨B, 0, [.int .i64 ps[k].1.from_, ps[k].2], rfl, trivial, (Array.getElem?_eq_some_iff.1 h).1, ⟨ps[k].2, by simp, by simpa using hS.imp fun _ _ _ => trivial⟩, fun j x hj => ?_⟩
  rw [cell_of_row w B _ _ _ _ h]
  match j, hj with
  | 0, hj => simp at hj; subst hj; show (ccells ps).toArray[0 + k * 2]? = _; rw [Nat.zero_add]; simpa using h0
  | 1, hj => simp at hj; subst hj; show (ccells ps).toArray[0 + k * 2 + 1]? = _; rw [Nat.zero_add]; simpa using h1
  | j + 2, hj => simp at hj
theorem shut_cmp (a b : Change) : shutR (cmpR a b) = cmpR a b := by
  unfold shutR
  by_cases h : (cmpR a b).2 = 0
  · rw [if_neg (by omega)]
    exact Prod.ext rfl h.symm
  · rw [if_pos h]
    exact Prod.ext (cmpR_gone h).symm rfl
theorem all_one {a : Change} (h : Rt a) : allR a.from_ [a] = (⟨a.from_, normL a.ops⟩, 0) := by
  unfold allR
  rw [nothR_ok h.lo h.hi]
  unfold allGo
  rw [if_neg (by simp)]
  unfold allGo
  rw [cmp_none h]
  unfold shutR
  rw [if_neg (by simp)]
theorem all_three {a b c : Change} (h1 : (cmpR a b).2 = 0) : allR a.from_ [a, b, c] = cmpR (cmpR a b).1 c := by
  obtain ⟨ha, _⟩ := cmpR_ok h1
  unfold allR
  rw [nothR_ok ha.lo ha.hi]
  unfold allGo
  rw [if_neg (by simp), cmp_none ha]
  unfold allGo
  rw [if_neg (by simp), cmp_norm ha]
  unfold allGo
  rw [if_neg (by omega)]
  unfold allGo
  exact shut_cmp _ _
end Go.Proofs.YtaemajcpgmaapaaDoor
