/- The wrap: what the card of every law of this seat asks, whatever the law: the two tables of unicode/utf8, a world that lays them, and the last step of a row that answers true and leaves its arguments alone. | The wrap: the closed facts of a row, joined out of those of Seal and of each row's own. -/
import Derived.Test.YtaemajcpgmaapaaDoorPkE
import Derived.Test.YtaemajcpgmaapaaDoorPkA
import Derived.Test.YtaemajcpgmaapaaDoorTie
import Derived.Test.YtaemajcpgmaapaaDoorCards
import Derived.Carry
import Derived.ProofKit
import Derived.OpenShut
import Derived.Deep.DeepHandedRow
import Derived.Deep.DeepWitnessRowRef
import Derived.Lib.LaidU8
import Derived.Lib.LaidTab
namespace Go.Proofs.YtaemajcpgmaapaaDoor
open Go.ChangeShapes Go.WideShapes Go.ChangeAt Go.RowKit Go.Lib

theorem own : ownKnob Tryd.prog.godebug = none := by kernel_rfl
theorem laidOut : laidOutB Tryd.prog = true := by kernel_rfl
/-- The two tables that every row of this seat lists. -/
abbrev twoLaid : List (String × DataW Unit) := [("unicode/utf8.acceptRanges", Rows.laid_unicode_utf8_acceptRanges), ("unicode/utf8.first", Rows.laid_unicode_utf8_first)]
theorem firstSame : Rows.laid_unicode_utf8_first = Lib.firstData := by kernel_rfl
theorem acceptSame : (Rows.laid_unicode_utf8_acceptRanges : DataW Unit) = Lib.acceptData := by kernel_rfl
theorem tabs_of_laid {W : World} (h : laidMetH Tryd.prog twoLaid W) : Tabs W :=
  utf8Tabs_of_reads (ρ := Tryd.lays260_ren) { Tryd.lays260 with } ⟨by kernel_rfl, by kernel_rfl, by kernel_rfl, by kernel_rfl, by kernel_rfl, by kernel_rfl, by kernel_rfl⟩
    (firstSame ▸ Lib.laidMet.reads h (.tail _ (.head _))) (acceptSame ▸ Lib.laidMet.reads h (.head _))

/-- A world for the witness: the settled one, the two tables' blocks holding what their initialisers lay. -/
noncomputable def laidWorld (os : Os) : World :=
  let w0 := World.holding Tryd.prog os ⟨#[], #[], []⟩
  let put (h : Array Obj) (g : Nat) (cs : Array Value) : Array Obj := h.modify g fun
    | .cells _ t frozen => .cells cs t frozen
    | o => o
  { w0 with heap := put (put w0.heap 0 (Lib.firstTab.map fun z => Value.int .u8 z).toArray) 1 ((List.range 16).flatMap fun i => [Value.int .u8 (Lib.accLo i), Value.int .u8 (Lib.accHi i)]).toArray }
theorem laid_met (os : Os) (args : Array Value) : laidMet Tryd.prog twoLaid ((laidWorld os).forCall (fun _ _ => 0) ⟨#[], args, []⟩).memory :=
  laidMet_of_run' 8 (by kernel_rfl) (by kernel_rfl)

/-! The closed facts that ask the words of the translation's head: each word is looked at once. -/
theorem strip_cut (rest : List (List Char)) : stripLifts liftWords ("cut".toList :: rest) = ([], "cut".toList :: rest) := by
  rfl
/-- The sum that the translation's head bears. -/
def mainSum : String := "daf9803696d209ce3b12a1ac7aefe3ce281c34514b6fe61ef00d83084b194523"
theorem head3 : (wordsSigns Tryd.prog.initOrder.toList).take 3 = ["harness".toList, mainSum.toList, "cut".toList] := by kernel_rfl
theorem words : ∃ R, wordsSigns Tryd.prog.initOrder.toList = "harness".toList :: mainSum.toList :: "cut".toList :: R := by
  have h := head3
  generalize wordsSigns Tryd.prog.initOrder.toList = X at h
  match X, h with
  | a :: b :: c :: R, h =>
    simp only [List.take_succ_cons, List.take_zero, List.cons.injEq, and_true] at h
    obtain ⟨rfl, rfl, rfl⟩ := h
    exact ⟨R, rfl⟩
theorem isSum : isSumSigns mainSum.toList = true := by kernel_rfl
theorem behind : ∃ R, behindMainWord (wordsSigns Tryd.prog.initOrder.toList) = "cut".toList :: R := by
  obtain ⟨R, h⟩ := words
  refine ⟨R, ?_⟩
  rw [h]
  simp only [behindMainWord, isSum]
  simp
theorem lays0 : Tryd.prog.laysLater = false := by kernel_rfl
theorem reflect0 : Tryd.prog.bearsReflect = false := by kernel_rfl
theorem door0 : Tryd.prog.doorFits [] = true := by kernel_rfl
theorem enter0 : Tryd.prog.mayEnter = true := by
  obtain ⟨R, h⟩ := behind
  unfold Program.mayEnter
  rw [h]
  dsimp only
  rw [strip_cut]
  simp [lays0, reflect0, door0]
theorem head0 : Tryd.prog.headLifts = [] := by
  obtain ⟨R, h⟩ := behind
  unfold Program.headLifts
  rw [h, strip_cut]
  rfl
theorem final0 : Tryd.prog.liftsFinal = false := by
  obtain ⟨R, h⟩ := behind
  unfold Program.liftsFinal
  rw [h, head0]
  rfl
theorem make0 : Tryd.prog.make = some .cut := by
  obtain ⟨R, h⟩ := behind
  unfold Program.make
  rw [h]
  rfl
theorem main0 : Tryd.prog.mainIs = some (true, mainSum.toList) := by
  obtain ⟨R, h⟩ := words
  unfold Program.mainIs
  rw [h]
  rfl
theorem rowed0 : mapsRowed Tryd.prog = true := by kernel_rfl
theorem keys0 : Tryd.prog.plainKeys = true := by kernel_rfl
theorem heard0 : Tryd.prog.stopsHeard = true := by kernel_rfl
theorem looks0 : Tryd.prog.looks [] = false := by kernel_rfl
section
variable {H : Type} {enc : TypeId × Value → H}
/-- Arguments of which no cell was turned read as they did. -/
theorem args_stay {W W' : World} (hb : Below W.heap.size W W') : ∀ {ts : List TypeId} {vs : List Value} {ds : List (DataW H)} {ps : List MemPlace},
    (∀ t ∈ ts, Tryd.prog.readableRec t = true ∧ t < Tryd.prog.types.size) → (∀ x ∈ ps, x.block < W.heap.size) → DataW.TrodAll enc Tryd.prog W 0 (fun _ => true) true ts vs ds ps →
    DataW.TrodAll enc Tryd.prog W' 0 (fun b => decide (b < W.heap.size)) true ts vs ds ps
  | [], _, _, _, _, _, h => by
    obtain ⟨rfl, rfl, rfl⟩ := trodAll_nil h
    exact rfl
  | t :: ts, _, _, _, ht, hlt, h => by
    obtain ⟨v, vs, d, ds, p, q, rfl, rfl, rfl, h0, h1⟩ := trodAll_cons h
    have h2 := ht t (.head _)
    exact ⟨p, q, Below.trod laidOut h2.1 h2.2 h0 hb (fun x hx => hlt x (List.mem_append_left _ hx)), args_stay hb (fun t ht' => ht t (.tail _ ht')) (fun x hx => hlt x (List.mem_append_right _ hx)) h1, rfl⟩
/-- The last step of a row whose function answers true and leaves memory alone below the heap's old size. -/
theorem post_true {f : Func} {s : ChangeSpec} {W W' : World} {args : Array Value} {ds gs : List (DataW H)} {before : List MemPlace}
    (hv : s.vars = []) (hr : f.resultTypes = #[4]) (hp : ∀ t ∈ f.params.toList, Tryd.prog.readableRec t = true ∧ t < Tryd.prog.types.size)
    (hW : DataW.Whole enc Tryd.prog f.params.toList s.vars false W args.toList ds gs before) (hs : s.fn H ds = { results := [.lit (.bool true)], args := ds }) (hb : Below W.heap.size W W') :
    s.post enc Tryd.prog f false true false false W args (.bool true) W' := by
  have hlt : ∀ p ∈ before, p.block < W.heap.size := fun p hp => hW.lt p hp
  have hW' := hW
  obtain ⟨p, q, hA, hV, rfl, _, _⟩ := hW
  rw [hv] at hV
  obtain ⟨rfl, rfl⟩ := trodVars_none hV
  have hs' : s.fn H (ds ++ []) = { results := [.lit (.bool true)], args := ds } := by rw [List.append_nil]; exact hs
  refine ⟨ds, [], _, [], p, [], hW', ?_, ?_, ?_, hb.frame _, fun h => by cases h⟩
  · rw [hs', hr]
    exact trodAll_mk1 (shut_bool Tryd.underlying4 true)
  · rw [hs']
    exact args_stay hb hp (fun x hx => hlt x (List.mem_append_left _ hx)) hA
  · rw [hs', hv]
    exact rfl
/-- Each argument's weights, off the row's bound. -/
theorem wb_of {ts : List TypeId} {ds : List (DataW H)} (h : (DataW.weightsEach Tryd.prog ts ds).all (· ≤ reachBytes) = true) (i : Nat) (t : TypeId) (d : DataW H) (ht : ts[i]? = some t) (hd : ds[i]? = some d) : WB t d :=
  wb_each (fun n hn => of_decide_eq_true (List.all_eq_true.1 h n hn)) i t d ht hd
end
end Go.Proofs.YtaemajcpgmaapaaDoor

namespace Go.Proofs.YtaemajcpgmaapaaDoor
open Go.ChangeShapes Go.WideShapes Go.ChangeAt Go.RowKit Go.Lib
/-- The closed facts of a row, one by one. -/
theorem joined {f : FuncId} {fn : Func} {s : ChangeSpec} {c : OpenClaim} (h1 : c.wf (OpenSpec.ofChange s) = true) (h2 : (c.inPlace == Tryd.prog.inPlace f) = true) (h3 : (c.unfollowed == Tryd.prog.unfollowed f) = true)
    (h4 : (c.recurses == Tryd.prog.recurses f) = true) (h5 : (c.named == Tryd.prog.varsNamed f) = true) (h6 : namedTie Tryd.prog c.named s.vars = true) (h7 : c.plainKeys = true) (h8 : c.lifted = false) (h9 : c.make = .cut) (hd : c.domain.isEmpty = true) (hk : c.kinds = [])
    (h10 : (fn.params.all (Tryd.prog.readableRec ·) && (c.stops == []) && (Tryd.prog.stops == []) && (c.knobs == []) && (Tryd.prog.stopKnobs == []) &&
      (c.maps == (fn.params.toList ++ s.plain.varTypes Tryd.prog).any (Tryd.prog.mapsRec ·)) && (c.ifaces == (fn.params.toList ++ s.plain.varTypes Tryd.prog).any (Tryd.prog.ifacesRec ·)) && (c.mapsOut == Tryd.prog.mapsAmong fn.resultTypes.toList) &&
      (c.loops == (fn.params.toList ++ s.plain.varTypes Tryd.prog).any (Tryd.prog.loopsFrom ·)) && (c.wideKeys == (fn.params.toList ++ s.plain.varTypes Tryd.prog ++ fn.resultTypes.toList).any (Tryd.prog.wideKeysFrom ·)) &&
      s.vars.all (Tryd.prog.varReadable ·) && fn.resultTypes.all (fun t => Tryd.prog.readableRec t && decide (t < Tryd.prog.types.size)) && (c.ifacesOut == fn.resultTypes.toList.any (Tryd.prog.ifacesRec ·)) && (c.loopsOut == fn.resultTypes.toList.any (Tryd.prog.loopsFrom ·)) &&
      c.shortTexts.isNone && (c.pinned == c.pinnedBy) &&
      (c.veiled == (fn.params.toList ++ s.plain.varTypes Tryd.prog ++ fn.resultTypes.toList).any (Tryd.prog.veiledRec ·)) && c.veiledFits Tryd.prog fn.params.toList (fn.params.toList ++ s.plain.varTypes Tryd.prog ++ fn.resultTypes.toList)) = true) : joinedFacts Tryd.prog f fn s c = true := by
  simp only [Bool.and_eq_true] at h10
  unfold joinedFacts
  obtain ⟨⟨⟨⟨⟨⟨⟨⟨⟨⟨⟨⟨⟨⟨⟨⟨⟨b1, b2⟩, b3⟩, b4⟩, b5⟩, b6⟩, b7⟩, b8⟩, b9⟩, b10⟩, b11⟩, b12⟩, b13⟩, b14⟩, b15⟩, b17⟩, b18⟩, b19⟩ := h10
  simp only [h1, laidOut, rowed0, b1, h6, b2, b3, b4, b5, h2, h3, h4, h5, b6, b7, b8, b9, b10, b11, b12, b13, b14, h7, keys0, b15, heard0, enter0, h8, final0, make0, h9, b17, b18, b19, Bool.and_true, beq_self_eq_true]
  rw [Bool.true_and, hd, hk]
  rfl
end Go.Proofs.YtaemajcpgmaapaaDoor
