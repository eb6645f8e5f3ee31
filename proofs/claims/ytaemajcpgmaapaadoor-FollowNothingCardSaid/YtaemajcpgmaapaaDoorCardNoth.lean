/- blotterlaw07.FollowNothing answers true and leaves what it is given alone, for every argument that reads; two tables of unicode/utf8 begin as Go's library lays them. -/
import Derived.Test.YtaemajcpgmaapaaDoorLawNoth
import Derived.Test.YtaemajcpgmaapaaDoorSeal2
namespace Go.Proofs.YtaemajcpgmaapaaDoor.followNothing
open Go.ChangeShapes Go.WideShapes Go.ChangeAt Go.RowKit

theorem pars : Tryd.f6.params.toList = [24, 4] := congrArg Array.toList Tryd.params6
theorem res : Tryd.f6.resultTypes = #[4] := by kernel_rfl
theorem readable : ∀ t ∈ Tryd.f6.params.toList, Tryd.prog.readableRec t = true ∧ t < Tryd.prog.types.size := by
  rw [pars]
  intro t ht
  simp only [List.mem_cons, List.mem_nil_iff, or_false] at ht
  rcases ht with rfl | rfl <;> exact ⟨by kernel_rfl, of_decide_eq_true (by kernel_rfl)⟩
set_option maxRecDepth 100000 in
/-- The walk, said of the arguments as the form reads them. -/
theorem contract (H : Type) (enc : TypeId × Value → H) (W : World) (base : Nat) (args : Array Value) (ds gs : List (DataW H)) (before : List MemPlace)
    (hval : ∀ (j : Nat) t v, Tryd.f6.params[j]? = some t → args[j]? = some v → Value.okWide Tryd.prog W .any base t v)
    (hW : DataW.Whole enc Tryd.prog Tryd.f6.params.toList Rows.followNothingSpec.vars false W args.toList ds gs before)
    (hz : (DataW.weightsEach Tryd.prog (Tryd.f6.params.toList ++ (OpenSpec.ofChange Rows.followNothingSpec).bare.plain.varTypes Tryd.prog) (ds ++ gs)).all (· ≤ reachBytes) = true)
    (hL : laidMetH Tryd.prog twoLaid W) : Calls Tryd.prog 6 args W fun e W' => ∃ v, e = .returned v ∧ Rows.followNothingSpec.post enc Tryd.prog Tryd.f6 false true false false W args v W' := by
  have hW' := hW
  obtain ⟨p, q, hA0, hV, rfl, _, _⟩ := hW
  obtain ⟨rfl, rfl⟩ := trodVars_none hV
  have hA : DataW.TrodAll enc Tryd.prog W 0 (fun _ => true) true Tryd.f6.params.toList args.toList ds p := hA0
  rw [pars] at hA
  have hz2 : (DataW.weightsEach Tryd.prog (Tryd.f6.params.toList ++ []) (ds ++ [])).all (· ≤ reachBytes) = true := hz
  rw [List.append_nil, List.append_nil, pars] at hz2
  rw [Tryd.params6] at hval
  obtain ⟨v0, vs0, d0, ds0, p0, q0, hargs, rfl, rfl, h0, r0⟩ := trodAll_cons hA
  obtain ⟨v1, vs1, d1, ds1, p1, q1, rfl, rfl, rfl, h1, r1⟩ := trodAll_cons r0
  obtain ⟨rfl, rfl, rfl⟩ := trodAll_nil r1
  obtain rfl : args = #[v0, v1] := by cases args; simp_all
  obtain ⟨f0, vo0, l0, rfl, rd0⟩ := open_change (hval 0 24 v0 rfl rfl) h0 (wb_of hz2 0 _ _ rfl rfl)
  obtain ⟨b1, rfl, rfl, rfl⟩ := open_bool Tryd.underlying4 (hval 1 4 v1 rfl rfl) h1
  refine (nothing_any f0 vo0 l0 _ b1 W rd0 (tabs_of_laid hL)).mono fun e W' ⟨he, hg⟩ => ?_
  subst he
  exact ⟨_, rfl, post_true rfl res readable hW' rfl hg⟩

theorem reads (os : Os) {H : Type} (enc : TypeId × Value → H) : ∃ places, DataW.whole enc Tryd.prog ((laidWorld os).forCall (fun _ _ => 0) ⟨#[], #[.agg #[.int .i64 0, .slice none 0 0], .bool false], []⟩).memory Tryd.f6.params.toList Rows.followNothingSpec.vars false (show Array Value from #[.agg #[.int .i64 0, .slice none 0 0], .bool false]).toList 8 = some ([.agg [.lit (.int .i64 0), .nil], .lit (.bool false)], [], places) :=
  ⟨[], by kernel_rfl⟩
set_option maxRecDepth 100000 in
theorem lifted (os : Os) (started : os.Started) (H : Type) (enc : TypeId × Value → H) (F : Stop.Interp) :
    ReturnsInHanded {} Tryd.checked os 6 .any ((OpenSpec.ofChange Rows.followNothingSpec).preRow enc Tryd.prog Tryd.f6 Rows.followNothingRow.domain false Rows.followNothingRow.laid) (((OpenSpec.ofChange Rows.followNothingSpec).at F).post enc Tryd.prog Tryd.f6 false true false false) := by
  obtain ⟨places, hx⟩ := reads os enc
  refine returnsInHanded_of_row (C := Tryd.checked) (s := (OpenSpec.ofChange Rows.followNothingSpec)) own started (by kernel_rfl) Tryd.func6
    (witness_row_at (enc := enc) (C := Tryd.checked) false (laidWorld os) #[.agg #[.int .i64 0, .slice none 0 0], .bool false] rfl (by kernel_rfl) (by kernel_rfl) (by kernel_rfl)
      (OpenSpec.preRow_of_cond 8 hx (by kernel_rfl) (fun k hk => by cases hk) (by kernel_rfl) (laid_met os _))) ?_
  intro W base args ds gs before hval hW _ _ hz hL _ _
  exact contract H enc W base args ds gs before hval hW hz hL
theorem wf0 : Rows.followNothingRow.wf (OpenSpec.ofChange (OpenSpec.ofChange Rows.followNothingSpec).bare) = true := by kernel_rfl
theorem in0 : (Rows.followNothingRow.inPlace == Tryd.prog.inPlace 6) = true := by kernel_rfl
theorem un0 : (Rows.followNothingRow.unfollowed == Tryd.prog.unfollowed 6) = true := by kernel_rfl
theorem rec0 : (Rows.followNothingRow.recurses == Tryd.prog.recurses 6) = true := by kernel_rfl
theorem var0 : (Rows.followNothingRow.named == Tryd.prog.varsNamed 6) = true := by kernel_rfl
theorem joined0 : joinedFacts Tryd.prog 6 Tryd.f6 (OpenSpec.ofChange Rows.followNothingSpec).bare Rows.followNothingRow = true :=
  joined wf0 in0 un0 rec0 var0 (by kernel_rfl) rfl rfl rfl rfl rfl (by kernel_rfl)
theorem inst0 : Tryd.f6.isInstance Tryd.prog Rows.followNothingRow.origin Rows.followNothingRow.targs := of_decide_eq_true (by kernel_rfl)
theorem wrap0 : Tryd.f6.isWrapper Tryd.prog Rows.followNothingRow.wrapper Rows.followNothingRow.mainSum := by
  unfold Func.isWrapper
  rw [if_neg (of_decide_eq_false (by kernel_rfl))]
  exact ⟨rfl, rfl⟩
theorem name0 : Tryd.prog.funcNamed "blotter/blotterlaw07.FollowNothing" = some 6 := by kernel_rfl
theorem said : Rows.FollowNothingSaid :=
  OpenClaim.holds_of_cond 6 Tryd.f6 rfl rfl rfl rfl rfl rfl rfl ⟨rfl, rfl, rfl, rfl, rfl⟩ rfl rfl rfl rfl rfl name0 Tryd.func6 joined0 inst0 wrap0
    (fun os started H enc _ F => by rw [OpenClaim.pre_eq_preRow]; exact lifted os started H enc F)
/-- No parameter wants a stand-in; the program's own looks are off. -/
theorem plain (f : FuncId) (fn : Func) (hf : Tryd.pinned.checked.prog.funcNamed "blotter/blotterlaw07.FollowNothing" = some f) (hfn : Tryd.pinned.checked.prog.funcs[f]? = some fn) :
    false = Tryd.pinned.checked.prog.looks [] ∧ ∀ (j : Nat) t, fn.params[j]? = some t → Tryd.pinned.checked.prog.wantsStandIn t = false := by
  obtain rfl : f = 6 := Option.some.inj (name0.symm.trans hf) |>.symm
  obtain rfl : fn = Tryd.f6 := (Option.some.inj (Tryd.func6.symm.trans hfn)).symm
  refine ⟨looks0.symm, fun j t ht => ?_⟩
  rw [Tryd.params6] at ht
  have hm := Array.mem_of_getElem? ht
  simp only [List.mem_toArray, List.mem_cons, List.mem_nil_iff, or_false] at hm
  rcases hm with rfl | rfl
  · exact (show Tryd.prog.wantsStandIn 24 = false by kernel_rfl)
  · exact (show Tryd.prog.wantsStandIn 4 = false by kernel_rfl)
/-- THE CARD. -/
theorem text0 : Rows.followNothingRow.wfByText (OpenSpec.ofChange Rows.followNothingSpec) = true := by kernel_rfl
theorem goes0 : false = Rows.followNothingRow.goesBy Tryd.prog := by kernel_rfl
theorem card : Rows.FollowNothingCardSaid :=
  Claim7.holds_tied_plain_at .later [] _ _ _ _ said (fun _ h => by cases h) text0 (fun _ h => by cases h) followNothing_row_tie rfl ⟨rfl, rfl⟩ main0 rfl plain goes0
end Go.Proofs.YtaemajcpgmaapaaDoor.followNothing
