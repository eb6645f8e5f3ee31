/- blotterlaw07.FollowMeets answers true and leaves what it is given alone, for every argument that reads; two tables of unicode/utf8 begin as Go's library lays them. -/
import Derived.Test.YtaemajcpgmaapaaDoorPkM
import Derived.Test.YtaemajcpgmaapaaDoorPkN
namespace Go.Proofs.YtaemajcpgmaapaaDoor
open Go.RowKit

set_option maxRecDepth 100000 in
set_option maxHeartbeats 4000000 in
theorem meets_any (fa : Int) (va : Value) (la : List Op) (Sa : Nat → Prop) (fb : Int) (vb : Value) (lb : List Op) (Sb : Nat → Prop) (first : Bool) (w : World) (ha : Rd KO Sa w va la) (hb : Rd KO Sb w vb lb) (hT : Tabs w) :
    Calls Tryd.prog 22 #[.agg #[.int .i64 fa, va], .agg #[.int .i64 fb, vb], .bool first] w fun e w' => e = .returned (.bool true) ∧ Below w.heap.size w w' := by
  have hba : Below w.heap.size w ((w.alloc (.cells #[.int .i64 fa, va] 24)).alloc (.cells #[.int .i64 fb, vb] 24)) := ((((Below.refl _ _).alloc (by simp <;> omega) _)).alloc (by simp <;> omega) _)
  have B1 : BoxC ((w.alloc (.cells #[.int .i64 fa, va] 24)).alloc (.cells #[.int .i64 fb, vb] 24)) (w.heap.size) ⟨fa, la⟩ va Sa := by
    have q := BoxC.new (w := w) (c := ⟨fa, la⟩) ha
    have q := q.alloc (.cells #[.int .i64 fb, vb] 24)
    simpa using q
  have B2 : BoxC ((w.alloc (.cells #[.int .i64 fa, va] 24)).alloc (.cells #[.int .i64 fb, vb] 24)) (w.heap.size + 1) ⟨fb, lb⟩ vb Sb := by
    have q := BoxC.new (w := (w.alloc (.cells #[.int .i64 fa, va] 24))) (c := ⟨fb, lb⟩) (hb.below ((Below.refl _ _).alloc (by simp <;> omega) _))
    simpa using q
  have cw := awake7 _ (hT.below hba)
  have cF1 := fun W h1 h2 h3 => follow_any fa fb va vb la lb Sa Sb first W h1 h2 h3
  have cF2 := fun W h1 h2 h3 => follow_any fb fa vb va lb la Sb Sa (!first) W h1 h2 h3
  have cC1 := fun f v l S W h1 h2 h3 => compose_any fa f va v la l Sa S W h1 h2 h3
  have cC2 := fun f v l S W h1 h2 h3 => compose_any fb f vb v lb l Sb S W h1 h2 h3
  have P0 : Hid ((folR first ⟨fa, la⟩ ⟨fb, lb⟩).2 = 0 → (folR (!first) ⟨fb, lb⟩ ⟨fa, la⟩).2 = 0 →
      (cmpR ⟨fa, la⟩ (folR first ⟨fa, la⟩ ⟨fb, lb⟩).1).2 ≠ 31 ∧ (cmpR ⟨fb, lb⟩ (folR (!first) ⟨fb, lb⟩ ⟨fa, la⟩).1).2 ≠ 31 ∧ ((cmpR ⟨fa, la⟩ (folR first ⟨fa, la⟩ ⟨fb, lb⟩).1).2 = 0 → (cmpR ⟨fb, lb⟩ (folR (!first) ⟨fb, lb⟩ ⟨fa, la⟩).1).2 = 0 → (cmpR ⟨fa, la⟩ (folR first ⟨fa, la⟩ ⟨fb, lb⟩).1).1 = (cmpR ⟨fb, lb⟩ (folR (!first) ⟨fb, lb⟩ ⟨fa, la⟩).1).1)) := fol_meet
  change ∀ W, _ → _ → _ → Calls _ _ _ _ (ChQ _ (folR first ⟨fa, la⟩ ⟨fb, lb⟩)) at cF1
  change ∀ W, _ → _ → _ → Calls _ _ _ _ (ChQ _ (folR (!first) ⟨fb, lb⟩ ⟨fa, la⟩)) at cF2
  generalize folR first ⟨fa, la⟩ ⟨fb, lb⟩ = X at *
  generalize folR (!first) ⟨fb, lb⟩ ⟨fa, la⟩ = Y at *
  obtain ⟨⟨xf, xo⟩, xe⟩ := X
  obtain ⟨⟨yf, yo⟩, ye⟩ := Y
  dsimp only at P0
  obtain ⟨Aa, ca, rfl, hAa, hra⟩ := ha
  obtain ⟨Ab, cb, rfl, hAb, hrb⟩ := hb
  have HB1 := Lib.hid B1
  have HB2 := Lib.hid B2
  have HBA := Lib.hid hba
  have kk := cw
  clear cw hba B1 hra hAa B2 hrb hAb
  go_enter Tryd.func22, Tryd.ntmps22
  go_wp2_with fail
  with_reducible refine kk.mono ?_
  rintro e w1 ⟨rfl, hbx⟩
  have hbw1 : Below w.heap.size w w1 := HBA.out.trans (hbx.mono HBA.out.size)
  have B1 := HB1.out.next hbx
  have B2 := HB2.out.next hbx
  clear kk hbx HB1 HB2
  have B10 := B1.c0
  have B11 := B1.c1
  have B20 := B2.c0
  have B21 := B2.c1
  dsimp only at B10 B11 B20 B21
  have kk := cF1 _ B1.rd B2.rd (hT.below hbw1)
  have HB1 := Lib.hid B1
  have HB2 := Lib.hid B2
  clear B1 B2
  go_wp2_with fail
  with_reducible refine kk.mono ?_
  rintro e w2 ⟨v2, rfl, hbx, hr2⟩
  obtain ⟨S2, hrd2⟩ : ∃ S, Rd KO S w2 v2 xo := ⟨_, hr2.rd⟩
  obtain ⟨A2, c2, rfl, hA2, hs2⟩ := hr2.rd
  dsimp only
  have hbw2 : Below w.heap.size w w2 := hbw1.trans (hbx.mono hbw1.size)
  have B1 := (HB1.out.next hbx).alloc (.cells #[.int .i64 xf, .slice A2 xo.length c2] 24)
  have B2 := (HB2.out.next hbx).alloc (.cells #[.int .i64 xf, .slice A2 xo.length c2] 24)
  have B3 := BoxC.new (c := ⟨xf, xo⟩) hrd2
  have hbv2 : Below w.heap.size w (w2.alloc (.cells #[.int .i64 xf, .slice A2 xo.length c2] 24)) := hbw2.alloc hbw2.size _
  clear kk hbx B10 B11 B20 B21 HB1 HB2 hr2 hs2 hA2
  have B10 := B1.c0
  have B11 := B1.c1
  have B20 := B2.c0
  have B21 := B2.c1
  dsimp only at B10 B11 B20 B21
  have kk := cF2 _ B2.rd B1.rd (hT.below hbv2)
  have HB1 := Lib.hid B1
  have HB2 := Lib.hid B2
  have HB3 := Lib.hid B3
  clear B1 B2 B3
  go_wp2_with fail
  with_reducible refine kk.mono ?_
  rintro e w3 ⟨v3, rfl, hbx, hr3⟩
  obtain ⟨S3, hrd3⟩ : ∃ S, Rd KO S w3 v3 yo := ⟨_, hr3.rd⟩
  obtain ⟨A3, c3, rfl, hA3, hs3⟩ := hr3.rd
  dsimp only
  have hbw3 : Below w.heap.size w w3 := hbv2.trans (hbx.mono hbv2.size)
  have B1 := (HB1.out.next hbx).alloc (.cells #[.int .i64 yf, .slice A3 yo.length c3] 24)
  have B2 := (HB2.out.next hbx).alloc (.cells #[.int .i64 yf, .slice A3 yo.length c3] 24)
  have B3 := (HB3.out.next hbx).alloc (.cells #[.int .i64 yf, .slice A3 yo.length c3] 24)
  have B4 := BoxC.new (c := ⟨yf, yo⟩) hrd3
  have hbv3 : Below w.heap.size w (w3.alloc (.cells #[.int .i64 yf, .slice A3 yo.length c3] 24)) := hbw3.alloc hbw3.size _
  clear kk hbx B10 B11 B20 B21 HB1 HB2 HB3 hr3 hs3 hA3
  by_cases he : xe = 0
  · subst he
    by_cases hf : ye = 0
    · subst hf
      have P1 := P0.out rfl rfl
      have kC1 := cC1 xf (.slice A2 xo.length c2) xo S2
      have kC2 := cC2 yf (.slice A3 yo.length c3) yo S3
      change ∀ W, _ → _ → _ → Calls _ _ _ _ (ChQ _ (cmpR ⟨fa, la⟩ ⟨xf, xo⟩)) at kC1
      change ∀ W, _ → _ → _ → Calls _ _ _ _ (ChQ _ (cmpR ⟨fb, lb⟩ ⟨yf, yo⟩)) at kC2
      generalize cmpR ⟨fa, la⟩ ⟨xf, xo⟩ = Z at *
      generalize cmpR ⟨fb, lb⟩ ⟨yf, yo⟩ = U at *
      obtain ⟨⟨zf, zo⟩, ze⟩ := Z
      obtain ⟨⟨uf, uo⟩, ue⟩ := U
      dsimp only at P1
      obtain ⟨p1, p2, p3⟩ := P1
      have hp1 : (ze != 31) = true := by simp [p1]
      have hp2 : (ue != 31) = true := by simp [p2]
      have HP3 := Lib.hid p3
      have HP1 := Lib.hid p1
      have HP2 := Lib.hid p2
      clear p1 p2 p3 P0 cC1 cC2 cF1 cF2 hrd2 hrd3
      have B10 := B1.c0
      have B11 := B1.c1
      have B30 := B3.c0
      have B31 := B3.c1
      dsimp only at B10 B11 B30 B31
      have kk := kC1 _ B1.rd B3.rd (hT.below hbv3)
      have HB2 := Lib.hid B2
      have HB4 := Lib.hid B4
      clear B1 B2 B3 B4
      go_wp2_with fail
      with_reducible refine kk.mono ?_
      rintro e w4 ⟨v4, rfl, hbx, hr4⟩
      obtain ⟨S4, hrd4⟩ : ∃ S, Rd KO S w4 v4 zo := ⟨_, hr4.rd⟩
      obtain ⟨A4, c4, rfl, hA4, hs4⟩ := hr4.rd
      dsimp only
      have hbw4 : Below w.heap.size w w4 := hbv3.trans (hbx.mono hbv3.size)
      have B2 := (HB2.out.next hbx).alloc (.cells #[.int .i64 zf, .slice A4 zo.length c4] 24)
      have B4 := (HB4.out.next hbx).alloc (.cells #[.int .i64 zf, .slice A4 zo.length c4] 24)
      have B5 := BoxC.new (c := ⟨zf, zo⟩) hrd4
      have hbv4 : Below w.heap.size w (w4.alloc (.cells #[.int .i64 zf, .slice A4 zo.length c4] 24)) := hbw4.alloc hbw4.size _
      clear kk hbx B10 B11 B30 B31 HB2 HB4 hr4 hs4 hA4
      have B20 := B2.c0
      have B21 := B2.c1
      have B40 := B4.c0
      have B41 := B4.c1
      dsimp only at B20 B21 B40 B41
      have kk := kC2 _ B2.rd B4.rd (hT.below hbv4)
      have HB5 := Lib.hid B5
      clear B2 B4 B5
      go_wp2_with fail
      with_reducible refine kk.mono ?_
      rintro e w5 ⟨v5, rfl, hbx, hr5⟩
      obtain ⟨S5, hrd5⟩ : ∃ S, Rd KO S w5 v5 uo := ⟨_, hr5.rd⟩
      obtain ⟨A5, c5, rfl, hA5, hs5⟩ := hr5.rd
      dsimp only
      have hbw5 : Below w.heap.size w w5 := hbv4.trans (hbx.mono hbv4.size)
      have B5 := (HB5.out.next hbx).alloc (.cells #[.int .i64 uf, .slice A5 uo.length c5] 24)
      have B6 := BoxC.new (c := ⟨uf, uo⟩) hrd5
      have hbv5 : Below w.heap.size w (w5.alloc (.cells #[.int .i64 uf, .slice A5 uo.length c5] 24)) := hbw5.alloc hbw5.size _
      clear kk hbx B20 B21 B40 B41 HB5 hr5 hs5 hA5
      by_cases hz : ze = 0
      · subst hz
        by_cases hu : ue = 0
        · subst hu
          have e1 := HP3.out rfl rfl
          injection e1 with e1 e2
          subst e1 e2
          have kS := fun W h1 h2 => same_ch zf zf (.slice A4 zo.length c4) (.slice A5 zo.length c5) zo zo S4 S5 W h1 h2
          rw [chEq_self] at kS
          clear HP3 hrd4 hrd5 kC1 kC2
          have B50 := B5.c0
          have B51 := B5.c1
          have B60 := B6.c0
          have B61 := B6.c1
          dsimp only at B50 B51 B60 B61
          have kk := kS _ B5.rd B6.rd
          clear B5 B6
          go_wp2_with fail
          with_reducible refine kk.mono ?_
          rintro e w6 ⟨rfl, hbx⟩
          have hbw6 : Below w.heap.size w w6 := hbv5.trans (hbx.mono hbv5.size)
          clear kk hbx B50 B51 B60 B61
          go_wp2_with fail
          go_ret
          exact ⟨rfl, hbw6⟩
        · have hub : (ue != 0) = true := by simp [hu]
          have HU := Lib.hid hu
          clear hu HP3 hrd4 hrd5 kC1 kC2
          clear B5 B6
          go_wp2_with fail
          go_ret
          exact ⟨rfl, hbv5⟩
      · have hzb : (ze != 0) = true := by simp [hz]
        have HZ := Lib.hid hz
        clear hz HP3 hrd4 hrd5 kC1 kC2
        clear B5 B6
        go_wp2_with fail
        go_ret
        exact ⟨rfl, hbv5⟩
    · have hfb : (ye != 0) = true := by simp [hf]
      have HF := Lib.hid hf
      clear hf P0
      clear B1 B2 B3 B4
      go_wp2_with fail
      go_ret
      exact ⟨rfl, hbv3⟩
  · have heb : (xe != 0) = true := by simp [he]
    have HE := Lib.hid he
    clear he P0
    clear B1 B2 B3 B4
    go_wp2_with fail
    go_ret
    exact ⟨rfl, hbv3⟩
end Go.Proofs.YtaemajcpgmaapaaDoor

namespace Go.Proofs.YtaemajcpgmaapaaDoor.followMeets
open Go.ChangeShapes Go.WideShapes Go.ChangeAt Go.RowKit

theorem pars : Tryd.f22.params.toList = [24, 24, 4] := congrArg Array.toList Tryd.params22
theorem res : Tryd.f22.resultTypes = #[4] := by kernel_rfl
theorem readable : ∀ t ∈ Tryd.f22.params.toList, Tryd.prog.readableRec t = true ∧ t < Tryd.prog.types.size := by
  rw [pars]
  intro t ht
  simp only [List.mem_cons, List.mem_nil_iff, or_false] at ht
  rcases ht with rfl | rfl | rfl <;> exact ⟨by kernel_rfl, of_decide_eq_true (by kernel_rfl)⟩
set_option maxRecDepth 100000 in
/-- The walk, said of the arguments as the form reads them. -/
theorem contract (H : Type) (enc : TypeId × Value → H) (W : World) (base : Nat) (args : Array Value) (ds gs : List (DataW H)) (before : List MemPlace)
    (hval : ∀ (j : Nat) t v, Tryd.f22.params[j]? = some t → args[j]? = some v → Value.okWide Tryd.prog W .any base t v)
    (hW : DataW.Whole enc Tryd.prog Tryd.f22.params.toList Rows.followMeetsSpec.vars false W args.toList ds gs before)
    (hz : (DataW.weightsEach Tryd.prog (Tryd.f22.params.toList ++ (OpenSpec.ofChange Rows.followMeetsSpec).bare.plain.varTypes Tryd.prog) (ds ++ gs)).all (· ≤ reachBytes) = true)
    (hL : laidMetH Tryd.prog twoLaid W) : Calls Tryd.prog 22 args W fun e W' => ∃ v, e = .returned v ∧ Rows.followMeetsSpec.post enc Tryd.prog Tryd.f22 false true false false W args v W' := by
  have hW' := hW
  obtain ⟨p, q, hA0, hV, rfl, _, _⟩ := hW
  obtain ⟨rfl, rfl⟩ := trodVars_none hV
  have hA : DataW.TrodAll enc Tryd.prog W 0 (fun _ => true) true Tryd.f22.params.toList args.toList ds p := hA0
  rw [pars] at hA
  have hz2 : (DataW.weightsEach Tryd.prog (Tryd.f22.params.toList ++ []) (ds ++ [])).all (· ≤ reachBytes) = true := hz
  rw [List.append_nil, List.append_nil, pars] at hz2
  rw [Tryd.params22] at hval
  obtain ⟨v0, vs0, d0, ds0, p0, q0, hargs, rfl, rfl, h0, r0⟩ := trodAll_cons hA
  obtain ⟨v1, vs1, d1, ds1, p1, q1, rfl, rfl, rfl, h1, r1⟩ := trodAll_cons r0
  obtain ⟨v2, vs2, d2, ds2, p2, q2, rfl, rfl, rfl, h2, r2⟩ := trodAll_cons r1
  obtain ⟨rfl, rfl, rfl⟩ := trodAll_nil r2
  obtain rfl : args = #[v0, v1, v2] := by cases args; simp_all
  obtain ⟨f0, vo0, l0, rfl, rd0⟩ := open_change (hval 0 24 v0 rfl rfl) h0 (wb_of hz2 0 _ _ rfl rfl)
  obtain ⟨f1, vo1, l1, rfl, rd1⟩ := open_change (hval 1 24 v1 rfl rfl) h1 (wb_of hz2 1 _ _ rfl rfl)
  obtain ⟨b2, rfl, rfl, rfl⟩ := open_bool Tryd.underlying4 (hval 2 4 v2 rfl rfl) h2
  refine (meets_any f0 vo0 l0 _ f1 vo1 l1 _ b2 W rd0 rd1 (tabs_of_laid hL)).mono fun e W' ⟨he, hg⟩ => ?_
  subst he
  exact ⟨_, rfl, post_true rfl res readable hW' rfl hg⟩

theorem reads (os : Os) {H : Type} (enc : TypeId × Value → H) : ∃ places, DataW.whole enc Tryd.prog ((laidWorld os).forCall (fun _ _ => 0) ⟨#[], #[.agg #[.int .i64 0, .slice none 0 0], .agg #[.int .i64 0, .slice none 0 0], .bool false], []⟩).memory Tryd.f22.params.toList Rows.followMeetsSpec.vars false (show Array Value from #[.agg #[.int .i64 0, .slice none 0 0], .agg #[.int .i64 0, .slice none 0 0], .bool false]).toList 8 = some ([.agg [.lit (.int .i64 0), .nil], .agg [.lit (.int .i64 0), .nil], .lit (.bool false)], [], places) :=
  ⟨[], by kernel_rfl⟩
set_option maxRecDepth 100000 in
theorem lifted (os : Os) (started : os.Started) (H : Type) (enc : TypeId × Value → H) (F : Stop.Interp) :
    ReturnsInHanded {} Tryd.checked os 22 .any ((OpenSpec.ofChange Rows.followMeetsSpec).preRow enc Tryd.prog Tryd.f22 Rows.followMeetsRow.domain false Rows.followMeetsRow.laid) (((OpenSpec.ofChange Rows.followMeetsSpec).at F).post enc Tryd.prog Tryd.f22 false true false false) := by
  obtain ⟨places, hx⟩ := reads os enc
  refine returnsInHanded_of_row (C := Tryd.checked) (s := (OpenSpec.ofChange Rows.followMeetsSpec)) own started (by kernel_rfl) Tryd.func22
    (witness_row_at (enc := enc) (C := Tryd.checked) false (laidWorld os) #[.agg #[.int .i64 0, .slice none 0 0], .agg #[.int .i64 0, .slice none 0 0], .bool false] rfl (by kernel_rfl) (by kernel_rfl) (by kernel_rfl)
      (OpenSpec.preRow_of_cond 8 hx (by kernel_rfl) (fun k hk => by cases hk) (by kernel_rfl) (laid_met os _))) ?_
  intro W base args ds gs before hval hW _ _ hz hL _ _
  exact contract H enc W base args ds gs before hval hW hz hL
theorem wf0 : Rows.followMeetsRow.wf (OpenSpec.ofChange (OpenSpec.ofChange Rows.followMeetsSpec).bare) = true := by kernel_rfl
theorem in0 : (Rows.followMeetsRow.inPlace == Tryd.prog.inPlace 22) = true := by kernel_rfl
theorem un0 : (Rows.followMeetsRow.unfollowed == Tryd.prog.unfollowed 22) = true := by kernel_rfl
theorem rec0 : (Rows.followMeetsRow.recurses == Tryd.prog.recurses 22) = true := by kernel_rfl
theorem var0 : (Rows.followMeetsRow.named == Tryd.prog.varsNamed 22) = true := by kernel_rfl
theorem joined0 : joinedFacts Tryd.prog 22 Tryd.f22 (OpenSpec.ofChange Rows.followMeetsSpec).bare Rows.followMeetsRow = true :=
  joined wf0 in0 un0 rec0 var0 (by kernel_rfl) rfl rfl rfl rfl rfl (by kernel_rfl)
theorem inst0 : Tryd.f22.isInstance Tryd.prog Rows.followMeetsRow.origin Rows.followMeetsRow.targs := of_decide_eq_true (by kernel_rfl)
theorem wrap0 : Tryd.f22.isWrapper Tryd.prog Rows.followMeetsRow.wrapper Rows.followMeetsRow.mainSum := by
  unfold Func.isWrapper
  rw [if_neg (of_decide_eq_false (by kernel_rfl))]
  exact ⟨rfl, rfl⟩
theorem name0 : Tryd.prog.funcNamed "blotter/blotterlaw07.FollowMeets" = some 22 := by kernel_rfl
theorem said : Rows.FollowMeetsSaid :=
  OpenClaim.holds_of_cond 22 Tryd.f22 rfl rfl rfl rfl rfl rfl rfl ⟨rfl, rfl, rfl, rfl, rfl⟩ rfl rfl rfl rfl rfl name0 Tryd.func22 joined0 inst0 wrap0
    (fun os started H enc _ F => by rw [OpenClaim.pre_eq_preRow]; exact lifted os started H enc F)
/-- No parameter wants a stand-in; the program's own looks are off. -/
theorem plain (f : FuncId) (fn : Func) (hf : Tryd.pinned.checked.prog.funcNamed "blotter/blotterlaw07.FollowMeets" = some f) (hfn : Tryd.pinned.checked.prog.funcs[f]? = some fn) :
    false = Tryd.pinned.checked.prog.looks [] ∧ ∀ (j : Nat) t, fn.params[j]? = some t → Tryd.pinned.checked.prog.wantsStandIn t = false := by
  obtain rfl : f = 22 := Option.some.inj (name0.symm.trans hf) |>.symm
  obtain rfl : fn = Tryd.f22 := (Option.some.inj (Tryd.func22.symm.trans hfn)).symm
  refine ⟨looks0.symm, fun j t ht => ?_⟩
  rw [Tryd.params22] at ht
  have hm := Array.mem_of_getElem? ht
  simp only [List.mem_toArray, List.mem_cons, List.mem_nil_iff, or_false] at hm
  rcases hm with rfl | rfl | rfl
  · exact (show Tryd.prog.wantsStandIn 24 = false by kernel_rfl)
  · exact (show Tryd.prog.wantsStandIn 24 = false by kernel_rfl)
  · exact (show Tryd.prog.wantsStandIn 4 = false by kernel_rfl)
/-- THE CARD. -/
theorem text0 : Rows.followMeetsRow.wfByText (OpenSpec.ofChange Rows.followMeetsSpec) = true := by kernel_rfl
theorem goes0 : false = Rows.followMeetsRow.goesBy Tryd.prog := by kernel_rfl
theorem card : Rows.FollowMeetsCardSaid :=
  Claim7.holds_tied_plain_at .later [] _ _ _ _ said (fun _ h => by cases h) text0 (fun _ h => by cases h) followMeets_row_tie rfl ⟨rfl, rfl⟩ main0 rfl plain goes0
end Go.Proofs.YtaemajcpgmaapaaDoor.followMeets
