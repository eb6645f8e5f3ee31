/- blotterlaw06.ComposeLong answers true and leaves what it is given alone, for every argument that reads; two tables of unicode/utf8 begin as Go's library lays them. -/
import Derived.Test.YtaemajcpgmaapaaDoorPkM
import Derived.Test.YtaemajcpgmaapaaDoorPkN
namespace Go.Proofs.YtaemajcpgmaapaaDoor
open Go.RowKit

theorem cmp_chIs {a b : Change} (h : (cmpR a b).2 = 0) : chIs (cmpR a b).1 = true := by
  unfold chIs
  rw [cmp_is h, chEq_self]
  rfl
set_option maxRecDepth 100000 in
set_option maxHeartbeats 4000000 in
theorem clong_any (fa : Int) (va : Value) (la : List Op) (Sa : Nat → Prop) (fb : Int) (vb : Value) (lb : List Op) (Sb : Nat → Prop) (w : World) (ha : Rd KO Sa w va la) (hb : Rd KO Sb w vb lb) (hT : Tabs w) :
    Calls Tryd.prog 11 #[.agg #[.int .i64 fa, va], .agg #[.int .i64 fb, vb]] w fun e w' => e = .returned (.bool true) ∧ Below w.heap.size w w' := by
  have hba : Below w.heap.size w ((w.alloc (.cells #[.int .i64 fa, va] 24)).alloc (.cells #[.int .i64 fb, vb] 24)) := ((((Below.refl _ _).alloc (by simp <;> omega) _)).alloc (by simp <;> omega) _)
  have B1 : BoxC ((w.alloc (.cells #[.int .i64 fa, va] 24)).alloc (.cells #[.int .i64 fb, vb] 24)) (w.heap.size) ⟨fa, la⟩ va Sa := by
    have q := BoxC.new (w := w) (c := ⟨fa, la⟩) ha
    have q := q.alloc (.cells #[.int .i64 fb, vb] 24)
    simpa using q
  have B2 : BoxC ((w.alloc (.cells #[.int .i64 fa, va] 24)).alloc (.cells #[.int .i64 fb, vb] 24)) (w.heap.size + 1) ⟨fb, lb⟩ vb Sb := by
    have q := BoxC.new (w := (w.alloc (.cells #[.int .i64 fa, va] 24))) (c := ⟨fb, lb⟩) (hb.below ((Below.refl _ _).alloc (by simp <;> omega) _))
    simpa using q
  have cw := awake6 _ (hT.below hba)
  have cF := fun W h1 h2 h3 => compose_any fa fb va vb la lb Sa Sb W h1 h2 h3
  have d1 := fun W h1 h2 => to_any fb vb lb Sb W h1 h2
  have P0 : Hid ((cmpR ⟨fa, la⟩ ⟨fb, lb⟩).2 = 0 → ∃ n, toR ⟨fb, lb⟩ = (n, 0) ∧ toR (cmpR ⟨fa, la⟩ ⟨fb, lb⟩).1 = (n, 0) ∧ (cmpR ⟨fa, la⟩ ⟨fb, lb⟩).1.from_ = fa ∧ chIs (cmpR ⟨fa, la⟩ ⟨fb, lb⟩).1 = true) := by
    intro h
    obtain ⟨_, rb, _⟩ := cmpR_ok h
    exact ⟨_, to_of rfl (toR_iff.2 rb), cmp_to h, (cmp_fits h).2.1, cmp_chIs h⟩
  have P1 : Hid ((cmpR ⟨fa, la⟩ ⟨fb, lb⟩).2 ≠ 0 → (cmpR ⟨fa, la⟩ ⟨fb, lb⟩).1 = ⟨0, []⟩) := cmpR_gone
  change ∀ W, _ → _ → _ → Calls _ _ _ _ (ChQ _ (cmpR ⟨fa, la⟩ ⟨fb, lb⟩)) at cF
  generalize cmpR ⟨fa, la⟩ ⟨fb, lb⟩ = X at *
  obtain ⟨⟨xf, xo⟩, xe⟩ := X
  dsimp only at P0 P1
  obtain ⟨Aa, ca, rfl, hAa, hra⟩ := ha
  obtain ⟨Ab, cb, rfl, hAb, hrb⟩ := hb
  have HB1 := Lib.hid B1
  have HB2 := Lib.hid B2
  have HBA := Lib.hid hba
  have kk := cw
  clear cw hba B1 hra hAa B2 hrb hAb
  go_enter Tryd.func11, Tryd.ntmps11
  go_wp2_with fail
  with_reducible refine kk.mono ?_
  rintro e w1 ⟨rfl, hbx⟩
  have hbw1 : Below w.heap.size w w1 := HBA.out.trans (hbx.mono HBA.out.size)
  have B1 := HB1.out.next hbx
  have B2 := HB2.out.next hbx
  clear kk hbx HB1 HB2
  have B10 := B1.c0
  have B11 := B1.c1
  have B20 := B2.c0
  have B21 := B2.c1
  dsimp only at B10 B11 B20 B21
  have kk := cF _ B1.rd B2.rd (hT.below hbw1)
  have HB1 := Lib.hid B1
  have HB2 := Lib.hid B2
  clear B1 B2
  go_wp2_with fail
  with_reducible refine kk.mono ?_
  rintro e w2 ⟨v2, rfl, hbx, hr2⟩
  obtain ⟨S2, hrd2⟩ : ∃ S, Rd KO S w2 v2 xo := ⟨_, hr2.rd⟩
  obtain ⟨A2, c2, rfl, hA2, hs2⟩ := hr2.rd
  dsimp only
  have hbw2 : Below w.heap.size w w2 := hbw1.trans (hbx.mono hbw1.size)
  have B1 := (HB1.out.next hbx).alloc (.cells #[.int .i64 xf, .slice A2 xo.length c2] 24)
  have B2 := (HB2.out.next hbx).alloc (.cells #[.int .i64 xf, .slice A2 xo.length c2] 24)
  have B3 := BoxC.new (c := ⟨xf, xo⟩) hrd2
  have hbv2 : Below w.heap.size w (w2.alloc (.cells #[.int .i64 xf, .slice A2 xo.length c2] 24)) := hbw2.alloc hbw2.size _
  clear kk hbx B10 B11 B20 B21 HB1 HB2 hr2 hs2 hA2
  have d3 := fun W h1 h2 => to_any xf (.slice A2 xo.length c2) xo S2 W h1 h2
  have i3 := fun W h1 h2 => is_ch xf (.slice A2 xo.length c2) xo S2 W h1 h2
  by_cases he : xe = 0
  · subst he
    obtain ⟨n, t1, t2, t3, i1⟩ := P0.out rfl
    have hq : (xf == fa) = true := by simp [t3]
    rw [t1] at d1
    rw [t2] at d3
    rw [i1] at i3
    clear t1 t2 t3 i1 P0 P1 hrd2 cF
    have B20 := B2.c0
    have B21 := B2.c1
    dsimp only at B20 B21
    have kk := d1 _ B2.rd (hT.below hbv2)
    have HB1 := Lib.hid B1
    have HB3 := Lib.hid B3
    clear B1 B2 B3
    go_wp2_with fail
    with_reducible refine kk.mono ?_
    rintro e w3 ⟨rfl, hbx⟩
    unfold R2
    dsimp only
    have hbw3 : Below w.heap.size w w3 := hbv2.trans (hbx.mono hbv2.size)
    have B1 := HB1.out.next hbx
    have B3 := HB3.out.next hbx
    clear kk hbx B20 B21 HB1 HB3
    have B30 := B3.c0
    have B31 := B3.c1
    dsimp only at B30 B31
    have kk := d3 _ B3.rd (hT.below hbw3)
    have HB1 := Lib.hid B1
    have HB3 := Lib.hid B3
    clear B1 B3
    go_wp2_with fail
    with_reducible refine kk.mono ?_
    rintro e w4 ⟨rfl, hbx⟩
    unfold R2
    dsimp only
    have hbw4 : Below w.heap.size w w4 := hbw3.trans (hbx.mono hbw3.size)
    have B1 := HB1.out.next hbx
    have B3 := HB3.out.next hbx
    clear kk hbx B30 B31 HB1 HB3
    have B10 := B1.c0
    have B11 := B1.c1
    have B30 := B3.c0
    have B31 := B3.c1
    dsimp only at B10 B11 B30 B31
    have kk := i3 _ B3.rd (hT.below hbw4)
    clear B1 B3
    go_wp2_with fail
    with_reducible refine kk.mono ?_
    rintro e w5 ⟨rfl, hbx⟩
    have hbw5 : Below w.heap.size w w5 := hbw4.trans (hbx.mono hbw4.size)
    clear kk hbx B10 B11 B30 B31
    go_wp2_with fail
    go_ret
    exact ⟨rfl, hbw5⟩
  · have heb : (xe != 0) = true := by simp [he]
    have e1 := P1.out he
    injection e1 with e1 e2
    subst e1 e2
    have HE := Lib.hid he
    clear he P0 P1 hrd2 cF d1 d3 i3
    simp only [List.length_nil] at *
    have B30 := B3.c0
    have B31 := B3.c1
    dsimp only at B30 B31
    clear B1 B2 B3
    go_wp2_with fail
    go_ret
    exact ⟨rfl, hbv2⟩
end Go.Proofs.YtaemajcpgmaapaaDoor

namespace Go.Proofs.YtaemajcpgmaapaaDoor.composeLong
open Go.ChangeShapes Go.WideShapes Go.ChangeAt Go.RowKit

theorem pars : Tryd.f11.params.toList = [24, 24] := congrArg Array.toList Tryd.params11
theorem res : Tryd.f11.resultTypes = #[4] := by kernel_rfl
theorem readable : ∀ t ∈ Tryd.f11.params.toList, Tryd.prog.readableRec t = true ∧ t < Tryd.prog.types.size := by
  rw [pars]
  intro t ht
  simp only [List.mem_cons, List.mem_nil_iff, or_false] at ht
  rcases ht with rfl | rfl <;> exact ⟨by kernel_rfl, of_decide_eq_true (by kernel_rfl)⟩
set_option maxRecDepth 100000 in
/-- The walk, said of the arguments as the form reads them. -/
theorem contract (H : Type) (enc : TypeId × Value → H) (W : World) (base : Nat) (args : Array Value) (ds gs : List (DataW H)) (before : List MemPlace)
    (hval : ∀ (j : Nat) t v, Tryd.f11.params[j]? = some t → args[j]? = some v → Value.okWide Tryd.prog W .any base t v)
    (hW : DataW.Whole enc Tryd.prog Tryd.f11.params.toList Rows.composeLongSpec.vars false W args.toList ds gs before)
    (hz : (DataW.weightsEach Tryd.prog (Tryd.f11.params.toList ++ (OpenSpec.ofChange Rows.composeLongSpec).bare.plain.varTypes Tryd.prog) (ds ++ gs)).all (· ≤ reachBytes) = true)
    (hL : laidMetH Tryd.prog twoLaid W) : Calls Tryd.prog 11 args W fun e W' => ∃ v, e = .returned v ∧ Rows.composeLongSpec.post enc Tryd.prog Tryd.f11 false true false false W args v W' := by
  have hW' := hW
  obtain ⟨p, q, hA0, hV, rfl, _, _⟩ := hW
  obtain ⟨rfl, rfl⟩ := trodVars_none hV
  have hA : DataW.TrodAll enc Tryd.prog W 0 (fun _ => true) true Tryd.f11.params.toList args.toList ds p := hA0
  rw [pars] at hA
  have hz2 : (DataW.weightsEach Tryd.prog (Tryd.f11.params.toList ++ []) (ds ++ [])).all (· ≤ reachBytes) = true := hz
  rw [List.append_nil, List.append_nil, pars] at hz2
  rw [Tryd.params11] at hval
  obtain ⟨v0, vs0, d0, ds0, p0, q0, hargs, rfl, rfl, h0, r0⟩ := trodAll_cons hA
  obtain ⟨v1, vs1, d1, ds1, p1, q1, rfl, rfl, rfl, h1, r1⟩ := trodAll_cons r0
  obtain ⟨rfl, rfl, rfl⟩ := trodAll_nil r1
  obtain rfl : args = #[v0, v1] := by cases args; simp_all
  obtain ⟨f0, vo0, l0, rfl, rd0⟩ := open_change (hval 0 24 v0 rfl rfl) h0 (wb_of hz2 0 _ _ rfl rfl)
  obtain ⟨f1, vo1, l1, rfl, rd1⟩ := open_change (hval 1 24 v1 rfl rfl) h1 (wb_of hz2 1 _ _ rfl rfl)
  refine (clong_any f0 vo0 l0 _ f1 vo1 l1 _ W rd0 rd1 (tabs_of_laid hL)).mono fun e W' ⟨he, hg⟩ => ?_
  subst he
  exact ⟨_, rfl, post_true rfl res readable hW' rfl hg⟩

theorem reads (os : Os) {H : Type} (enc : TypeId × Value → H) : ∃ places, DataW.whole enc Tryd.prog ((laidWorld os).forCall (fun _ _ => 0) ⟨#[], #[.agg #[.int .i64 0, .slice none 0 0], .agg #[.int .i64 0, .slice none 0 0]], []⟩).memory Tryd.f11.params.toList Rows.composeLongSpec.vars false (show Array Value from #[.agg #[.int .i64 0, .slice none 0 0], .agg #[.int .i64 0, .slice none 0 0]]).toList 8 = some ([.agg [.lit (.int .i64 0), .nil], .agg [.lit (.int .i64 0), .nil]], [], places) :=
  ⟨[], by kernel_rfl⟩
set_option maxRecDepth 100000 in
theorem lifted (os : Os) (started : os.Started) (H : Type) (enc : TypeId × Value → H) (F : Stop.Interp) :
    ReturnsInHanded {} Tryd.checked os 11 .any ((OpenSpec.ofChange Rows.composeLongSpec).preRow enc Tryd.prog Tryd.f11 Rows.composeLongRow.domain false Rows.composeLongRow.laid) (((OpenSpec.ofChange Rows.composeLongSpec).at F).post enc Tryd.prog Tryd.f11 false true false false) := by
  obtain ⟨places, hx⟩ := reads os enc
  refine returnsInHanded_of_row (C := Tryd.checked) (s := (OpenSpec.ofChange Rows.composeLongSpec)) own started (by kernel_rfl) Tryd.func11
    (witness_row_at (enc := enc) (C := Tryd.checked) false (laidWorld os) #[.agg #[.int .i64 0, .slice none 0 0], .agg #[.int .i64 0, .slice none 0 0]] rfl (by kernel_rfl) (by kernel_rfl) (by kernel_rfl)
      (OpenSpec.preRow_of_cond 8 hx (by kernel_rfl) (fun k hk => by cases hk) (by kernel_rfl) (laid_met os _))) ?_
  intro W base args ds gs before hval hW _ _ hz hL _ _
  exact contract H enc W base args ds gs before hval hW hz hL
theorem wf0 : Rows.composeLongRow.wf (OpenSpec.ofChange (OpenSpec.ofChange Rows.composeLongSpec).bare) = true := by kernel_rfl
theorem in0 : (Rows.composeLongRow.inPlace == Tryd.prog.inPlace 11) = true := by kernel_rfl
theorem un0 : (Rows.composeLongRow.unfollowed == Tryd.prog.unfollowed 11) = true := by kernel_rfl
theorem rec0 : (Rows.composeLongRow.recurses == Tryd.prog.recurses 11) = true := by kernel_rfl
theorem var0 : (Rows.composeLongRow.named == Tryd.prog.varsNamed 11) = true := by kernel_rfl
theorem joined0 : joinedFacts Tryd.prog 11 Tryd.f11 (OpenSpec.ofChange Rows.composeLongSpec).bare Rows.composeLongRow = true :=
  joined wf0 in0 un0 rec0 var0 (by kernel_rfl) rfl rfl rfl rfl rfl (by kernel_rfl)
theorem inst0 : Tryd.f11.isInstance Tryd.prog Rows.composeLongRow.origin Rows.composeLongRow.targs := of_decide_eq_true (by kernel_rfl)
theorem wrap0 : Tryd.f11.isWrapper Tryd.prog Rows.composeLongRow.wrapper Rows.composeLongRow.mainSum := by
  unfold Func.isWrapper
  rw [if_neg (of_decide_eq_false (by kernel_rfl))]
  exact ⟨rfl, rfl⟩
theorem name0 : Tryd.prog.funcNamed "blotter/blotterlaw06.ComposeLong" = some 11 := by kernel_rfl
theorem said : Rows.ComposeLongSaid :=
  OpenClaim.holds_of_cond 11 Tryd.f11 rfl rfl rfl rfl rfl rfl rfl ⟨rfl, rfl, rfl, rfl, rfl⟩ rfl rfl rfl rfl rfl name0 Tryd.func11 joined0 inst0 wrap0
    (fun os started H enc _ F => by rw [OpenClaim.pre_eq_preRow]; exact lifted os started H enc F)
/-- No parameter wants a stand-in; the program's own looks are off. -/
theorem plain (f : FuncId) (fn : Func) (hf : Tryd.pinned.checked.prog.funcNamed "blotter/blotterlaw06.ComposeLong" = some f) (hfn : Tryd.pinned.checked.prog.funcs[f]? = some fn) :
    false = Tryd.pinned.checked.prog.looks [] ∧ ∀ (j : Nat) t, fn.params[j]? = some t → Tryd.pinned.checked.prog.wantsStandIn t = false := by
  obtain rfl : f = 11 := Option.some.inj (name0.symm.trans hf) |>.symm
  obtain rfl : fn = Tryd.f11 := (Option.some.inj (Tryd.func11.symm.trans hfn)).symm
  refine ⟨looks0.symm, fun j t ht => ?_⟩
  rw [Tryd.params11] at ht
  have hm := Array.mem_of_getElem? ht
  simp only [List.mem_toArray, List.mem_cons, List.mem_nil_iff, or_false] at hm
  rcases hm with rfl | rfl
  · exact (show Tryd.prog.wantsStandIn 24 = false by kernel_rfl)
  · exact (show Tryd.prog.wantsStandIn 24 = false by kernel_rfl)
/-- THE CARD. -/
theorem text0 : Rows.composeLongRow.wfByText (OpenSpec.ofChange Rows.composeLongSpec) = true := by kernel_rfl
theorem goes0 : false = Rows.composeLongRow.goesBy Tryd.prog := by kernel_rfl
theorem card : Rows.ComposeLongCardSaid :=
  Claim7.holds_tied_plain_at .later [] _ _ _ _ said (fun _ h => by cases h) text0 (fun _ h => by cases h) composeLong_row_tie rfl ⟨rfl, rfl⟩ main0 rfl plain goes0
end Go.Proofs.YtaemajcpgmaapaaDoor.composeLong
