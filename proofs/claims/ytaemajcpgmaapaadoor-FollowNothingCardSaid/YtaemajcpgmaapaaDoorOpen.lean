/- From the form's reading of an argument to what the walks ask: rows of attributes, of operations, of runs, of changesets. -/
import Derived.Test.YtaemajcpgmaapaaDoorShelf
import Derived.Test.YtaemajcpgmaapaaDoorRep
import Derived.Deep.Slices
import Derived.Deep.SlicePairs
import Derived.Lib.SmallJoins
import Derived.WideShapes
import Derived.RowKit
import Derived.KernelRfl
namespace Go.Proofs.YtaemajcpgmaapaaDoor
open Go.RowKit Go.WideShapes Go.ChangeShapes

theorem und28 : Tryd.prog.underlying 28 = some (.slice 102) := by kernel_rfl
theorem und22 : Tryd.prog.underlying 22 = some (.slice 30) := by kernel_rfl
theorem undString : Tryd.prog.underlying 9 = some .string := by kernel_rfl
theorem undInt : Tryd.prog.underlying 3 = some (.int .i64) := by kernel_rfl

section
variable {H : Type} {enc : TypeId × Value → H} {w : World} {base : Nat} {sp : Nat → Bool} {held : Bool}
/-- Nothing that it holds is longer than the form lets be. -/
def WB (t : TypeId) (d : DataW H) : Prop := ∀ n ∈ d.weights Tryd.prog t, n ≤ reachBytes
theorem wb_all {e : TypeId} : ∀ {l : List (DataW H)}, (∀ n ∈ DataW.weightsAll Tryd.prog e l, n ≤ reachBytes) → ∀ d ∈ l, WB e d
  | [], _, _, h => by cases h
  | a :: l, h, d, hd => by
    unfold DataW.weightsAll at h
    cases hd with
    | head => exact fun n hn => h n (List.mem_append_left _ hn)
    | tail _ hd => exact wb_all (fun n hn => h n (List.mem_append_right _ hn)) d hd
theorem wb_slice {t e : TypeId} (ht : Tryd.prog.underlying t = some (.slice e)) {es ss : List (DataW H)} (h : WB t (.slice es ss)) : (es.length + ss.length) * Tryd.prog.bytesOf e ≤ reachBytes ∧ ∀ d ∈ es, WB e d := by
  have h' : ∀ n ∈ (es.length + ss.length) * Tryd.prog.bytesOf e :: (DataW.weightsAll Tryd.prog e es ++ DataW.weightsAll Tryd.prog e ss), n ≤ reachBytes := by
    intro n hn
    refine h n ?_
    rw [DataW.weights, ht]
    exact hn
  exact ⟨h' _ (.head _), wb_all fun n hn => h' n (.tail _ (List.mem_append_left _ hn))⟩
theorem wb_each : ∀ {ts : List TypeId} {ds : List (DataW H)}, (∀ n ∈ DataW.weightsEach Tryd.prog ts ds, n ≤ reachBytes) → ∀ (i : Nat) (t : TypeId) (d : DataW H), ts[i]? = some t → ds[i]? = some d → WB t d
  | [], _, _, i, _, _, ht, _ => by simp at ht
  | _ :: _, [], _, i, _, _, _, hd => by simp at hd
  | t0 :: ts, d0 :: ds, h, i, t, d, ht, hd => by
    unfold DataW.weightsEach at h
    cases i with
    | zero =>
      simp at ht hd
      subst ht hd
      exact fun n hn => h n (List.mem_append_left _ hn)
    | succ i => exact wb_each (fun n hn => h n (List.mem_append_right _ hn)) i t d (by simpa using ht) (by simpa using hd)
theorem wb_agg {t : TypeId} {fs : Array Field} (ht : Tryd.prog.underlying t = some (.struct fs)) {ds : List (DataW H)} (h : WB t (.agg ds)) (i : Nat) (f : Field) (d : DataW H) (hf : fs.toList[i]? = some f) (hd : ds[i]? = some d) : WB f.type d := by
  refine wb_each (ts := fs.toList.map (·.type)) (fun n hn => h n ?_) i f.type d (by simp [hf]) hd
  rw [DataW.weights, ht]
  exact hn
theorem wb_string {t : TypeId} {b : List UInt8} (h : WB (H := H) t (.lit (.string b))) : b.length ≤ 140737488355328 := by
  have : b.length ≤ reachBytes := h _ (by rw [DataW.weights]; exact .head _)
  unfold reachBytes at this
  omega

def strV : Value → ByteArray
  | .string s => s
  | _ => ⟨#[]⟩
def intV : Value → Int
  | .int _ n => n
  | _ => 0

theorem sz_list (s : ByteArray) : s.data.toList.length = s.size := Array.length_toList
/-- A row of attributes. -/
theorem open_attrs {fuel : Nat} {cs : List Value} {x : DataW H × List MemPlace} (h : DataW.trod enc Tryd.prog w base sp held fuel 28 cs = some x) (hw : WB 28 x.1) :
    ∃ va l, cs = [va] ∧ Rd KA (fun _ => True) w va l := by
  rcases Deep.open_slice_pairs (f0 := { name := "Key", type := 9, offset := 0, embedded := false, tag := "", pkgPath := "", byteOffset := 0 }) (f1 := { name := "Value", type := 9, offset := 1, embedded := false, tag := "", pkgPath := "", byteOffset := 16 })
    und28 (by kernel_rfl) (by kernel_rfl) rfl rfl (by kernel_rfl) (by kernel_rfl) h with ⟨rfl, _⟩ | ⟨a, len, cap, m, n, V0, V1, D0, D1, P0, P1, rfl, hb, hl, hm, hmm, rfl, hx⟩
  · exact ⟨_, [], rfl, Rd.nil _ _ _ _ _ (by simp)⟩
  · obtain ⟨hlen, hel⟩ := wb_slice und28 hw
    have hby : Tryd.prog.bytesOf 102 = 32 := by kernel_rfl
    rw [hby] at hlen
    simp only [List.length_map, List.length_range] at hlen
    unfold reachBytes at hlen
    have hlm : len ≤ m := by rw [hmm]; split <;> omega
    refine ⟨_, (List.range len).map fun i => ⟨strV (V0 i), strV (V1 i)⟩, rfl, some a, cap, ?_, ⟨by simp, by simpa using hl⟩, by simp [KA]; omega, fun k hk => ?_⟩
    · simp
    · have hk' : k < len := by simpa using hk
      obtain ⟨h0, h1, t0, t1⟩ := hx k (by omega)
      obtain ⟨s0, e0, q0, _⟩ := DataW.trod_string undString t0
      obtain ⟨s1, e1, q1, _⟩ := DataW.trod_string undString t1
      injection e0 with e0
      injection e1 with e1
      rw [e0] at h0
      rw [e1] at h1
      simp only [Prod.mk.injEq] at q0 q1
      have hW := hel (.agg [D0 k, D1 k]) (List.mem_map.2 ⟨k, List.mem_range.2 hk', rfl⟩)
      have w0 := wb_agg (f := { name := "Key", type := 9, offset := 0, embedded := false, tag := "", pkgPath := "", byteOffset := 0 }) (fs := #[{ name := "Key", type := 9, offset := 0, embedded := false, tag := "", pkgPath := "", byteOffset := 0 }, { name := "Value", type := 9, offset := 1, embedded := false, tag := "", pkgPath := "", byteOffset := 16 }]) (by kernel_rfl) hW 0 _ rfl rfl
      have w1 := wb_agg (f := { name := "Value", type := 9, offset := 1, embedded := false, tag := "", pkgPath := "", byteOffset := 16 }) (fs := #[{ name := "Key", type := 9, offset := 0, embedded := false, tag := "", pkgPath := "", byteOffset := 0 }, { name := "Value", type := 9, offset := 1, embedded := false, tag := "", pkgPath := "", byteOffset := 16 }]) (by kernel_rfl) hW 1 _ rfl rfl
      rw [q0.1] at w0
      rw [q1.1] at w1
      have f0 := wb_string w0
      have f1 := wb_string w1
      rw [sz_list] at f0 f1
      obtain ⟨b, o, spt⟩ := a
      have hspot : spt = none := by
        have := World.cell?_spot (hx 0 (by omega)).1
        simpa [Addr.add] using this
      subst hspot
      rw [Addr.add_lit] at h0 h1
      refine ⟨b, o, [.string s0, .string s1], rfl, trivial, World.block_lt_of_cell? _ _ h0, ?_, fun j x hj => ?_⟩
      · show [Value.string s0, .string s1] = _ ∧ _
        simp only [List.getElem_map, List.getElem_range, e0, e1, strV]
        exact ⟨trivial, f0, f1⟩
      · match j, hj with
        | 0, hj => simp at hj; subst hj; exact h0
        | 1, hj => simp at hj; subst hj; rw [Nat.add_assoc]; exact h1

theorem cells_at {a : Addr} {k m : Nat} {cs : List Value} (h : w.cells? base (a.add k) m = some cs) : cs.length = m ∧ ∀ j, j < m → w.cell? (a.add (k + j)) = cs[j]? := by
  obtain ⟨_, hlen, hcell⟩ := World.cells?_some h
  refine ⟨hlen, fun j hj => ?_⟩
  have := hcell j hj
  rw [Deep.add_add] at this
  rw [this, List.getElem?_eq_getElem (by omega)]
theorem reach_le : reachBytes ≤ 140737488355328 := by unfold reachBytes; omega

/-- An operation's field, by its place. -/
def fOp : Array Field := #[{ name := "Kind", type := 3, offset := 0, embedded := false, tag := "", pkgPath := "", byteOffset := 0 }, { name := "N", type := 3, offset := 1, embedded := false, tag := "", pkgPath := "", byteOffset := 8 }, { name := "Text", type := 9, offset := 2, embedded := false, tag := "", pkgPath := "", byteOffset := 16 }, { name := "Attrs", type := 28, offset := 3, embedded := false, tag := "", pkgPath := "", byteOffset := 32 }]
theorem und30 : Tryd.prog.underlying 30 = some (.struct fOp) := by kernel_rfl
theorem cel30 : Tryd.prog.cellsOf 30 = 4 := by kernel_rfl
theorem celInt : Tryd.prog.cellsOf 3 = 1 := by kernel_rfl
theorem celString : Tryd.prog.cellsOf 9 = 1 := by kernel_rfl
theorem cel28 : Tryd.prog.cellsOf 28 = 1 := by kernel_rfl
theorem cel22 : Tryd.prog.cellsOf 22 = 1 := by kernel_rfl
theorem by30 : Tryd.prog.bytesOf 30 = 56 := by kernel_rfl
theorem open_op {n : Nat} {cs : List Value} {x : DataW H × List MemPlace} (hl : cs.length = 4) (h : DataW.trod enc Tryd.prog w base sp held n 30 cs = some x) (hw : WB 30 x.1) :
    ∃ o : Op, KO.rep (fun _ => True) w o cs := by
  match cs, hl with
  | [v0, v1, v2, v3], _ =>
    obtain ⟨y0, y1, y2, y3, n', rfl, _, t0, t1, t2, t3⟩ := Joins.trod_struct4 und30 h
    simp only [celInt, celString, cel28, List.drop_zero, List.drop_succ_cons, List.take_succ_cons, List.take_zero] at t0 t1 t2 t3
    obtain ⟨k, e0, q0, _⟩ := DataW.trod_int undInt t0
    obtain ⟨m, e1, q1, _⟩ := DataW.trod_int undInt t1
    obtain ⟨s, e2, q2, _⟩ := DataW.trod_string undString t2
    injection e0 with e0
    injection e1 with e1
    injection e2 with e2
    have w2 := wb_agg und30 hw 2 _ _ rfl rfl
    have w3 := wb_agg und30 hw 3 _ _ rfl rfl
    obtain ⟨va, l, e3, hva⟩ := open_attrs t3 w3
    injection e3 with e3
    rw [q2] at w2
    have f2 := wb_string w2
    rw [sz_list] at f2
    subst e0 e1 e2 e3
    exact ⟨⟨k, m, s, l⟩, v3, rfl, hva, f2⟩
/-- A row of operations. -/
theorem open_ops {fuel : Nat} {cs : List Value} {x : DataW H × List MemPlace} (h : DataW.trod enc Tryd.prog w base sp held fuel 22 cs = some x) (hw : WB 22 x.1) :
    ∃ vo l, cs = [vo] ∧ Rd KO (fun _ => True) w vo l := by
  rcases Deep.open_slice und22 h with ⟨rfl, _⟩ | ⟨a, len, cap, m, n, D, Pl, rfl, hb, hl, hm, hmm, rfl, hx⟩
  · exact ⟨_, [], rfl, Rd.nil _ _ _ _ _ (by simp)⟩
  · obtain ⟨hlen, hel⟩ := wb_slice und22 hw
    rw [by30] at hlen
    simp only [List.length_map, List.length_range] at hlen
    have := reach_le
    have hlm : len ≤ m := by rw [hmm]; split <;> omega
    have each : ∀ i, i < len → ∃ o : Op, ∃ cs', w.cells? base (a.add (i * 4)) 4 = some cs' ∧ KO.rep (fun _ => True) w o cs' := fun i hi => by
      obtain ⟨cs', h1, h2⟩ := hx i (by omega)
      rw [cel30] at h1
      obtain ⟨o, ho⟩ := open_op (cells_at h1).1 h2 (hel (D i) (List.mem_map.2 ⟨i, List.mem_range.2 hi, rfl⟩))
      exact ⟨o, cs', h1, ho⟩
    obtain ⟨q, hq⟩ := Deep.choose_lt each
    refine ⟨_, (List.range len).map q, rfl, some a, cap, by simp, ⟨by simp, by simpa using hl⟩, by simp only [List.length_map, List.length_range]; show len * 56 ≤ _; omega, fun k hk => ?_⟩
    have hk' : k < len := by simpa using hk
    obtain ⟨cs', h1, ho⟩ := hq k hk'
    obtain ⟨c1, c2⟩ := cells_at h1
    obtain ⟨b, o, spt⟩ := a
    have hspot : spt = none := by
      obtain ⟨cs0, h0, _⟩ := hq 0 (by omega)
      have c0 := (cells_at h0).2 0 (by omega)
      have l0 := (cells_at h0).1
      rw [List.getElem?_eq_getElem (by omega)] at c0
      have := World.cell?_spot c0
      simpa [Addr.add] using this
    subst hspot
    have hc0 := c2 0 (by omega)
    rw [List.getElem?_eq_getElem (by omega), Addr.add_lit] at hc0
    refine ⟨b, o, cs', rfl, trivial, World.block_lt_of_cell? _ _ hc0, by simpa using ho, fun j x hj => ?_⟩
    have hj4 : j < 4 := by have := (List.getElem?_eq_some_iff.1 hj).1; omega
    have := c2 j hj4
    rw [Addr.add_lit, ← Nat.add_assoc] at this
    exact this.trans hj
/-- A changeset's fields. -/
def fFrom : Field := { name := "From", type := 3, offset := 0, embedded := false, tag := "", pkgPath := "", byteOffset := 0 }
def fOps : Field := { name := "Ops", type := 22, offset := 1, embedded := false, tag := "", pkgPath := "", byteOffset := 8 }
theorem und24 : Tryd.prog.underlying 24 = some (.struct #[fFrom, fOps]) := by kernel_rfl
theorem cel24 : Tryd.prog.cellsOf 24 = 2 := by kernel_rfl
set_option maxRecDepth 100000 in
/-- A changeset as an argument. -/
theorem open_change {r : Reach} {b0 : Nat} {v : Value} {d : DataW H} {ps : List MemPlace} (hv : Value.okWide Tryd.prog w r b0 24 v) (h : DataW.Trod enc Tryd.prog w base sp held 24 v d ps) (hw : WB 24 d) :
    ∃ f vo l, v = .agg #[.int .i64 f, vo] ∧ Rd KO (fun _ => True) w vo l := by
  obtain ⟨v0, v1, y0, y1, n, rfl, rfl, rfl, t0, t1⟩ := Joins.open_agg2 und24 (by kernel_rfl) cel24 hv h
  obtain ⟨f, e0, q0, _⟩ := DataW.trod_int undInt t0
  have w1 := wb_agg und24 hw 1 _ _ rfl rfl
  obtain ⟨vo, l, e1, hvo⟩ := open_ops t1 w1
  injection e0 with e0
  injection e1 with e1
  subst e0 e1
  exact ⟨f, _, l, rfl, hvo⟩
end
end Go.Proofs.YtaemajcpgmaapaaDoor
