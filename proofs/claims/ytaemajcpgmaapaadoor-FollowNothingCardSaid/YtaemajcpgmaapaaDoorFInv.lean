/- follow.Follow: what its loop holds; how a round's calls turn it. -/
import Derived.Test.YtaemajcpgmaapaaDoorFWri
namespace Go.Proofs.YtaemajcpgmaapaaDoor
open Go.RowKit

theorem OwnA.rdS {lo : Nat} {w : World} {v : Value} {l : List Attr} (h : OwnA lo w v l) : Rd KA (fun k => v.ownBlock = some k) w v l := by
  have h0 := h.rd
  obtain ⟨⟨h1, h2⟩, hf, hl⟩ := h
  rcases h2 with ⟨rfl, hz⟩ | ⟨g, cap, cur, rfl, hg, hh, hn, hm, hs, ht⟩
  · obtain rfl : l = [] := List.eq_nil_of_length_eq_zero (by assumption)
    exact Rd.nil _ _ _ _ _ (by simp)
  · obtain ⟨A, c, e, hA, hr⟩ := h0
    injection e with e1 e2 e3
    subst e1 e3
    refine ⟨_, _, rfl, hA, hr.1, fun k hk => ?_⟩
    obtain ⟨b, o, cs, e, hS, hb, hk1, hc⟩ := hr.2 k hk
    injection e with e
    injection e with e1 e2
    subst e1 e2
    exact ⟨_, _, cs, rfl, rfl, hb, hk1, hc⟩
theorem OwnA.block {lo : Nat} {w : World} {v : Value} {l : List Attr} (h : OwnA lo w v l) {k : Nat} (hk : v.ownBlock = some k) : ∃ cs, w.heap[k]? = some (.cells cs 102 (0, 0)) := by
  rcases h.1.2 with ⟨rfl, _⟩ | ⟨g, cap, cur, rfl, _, hh, _⟩
  · simp [Value.ownBlock] at hk
  · simp [Value.ownBlock] at hk; subst hk; exact ⟨_, hh⟩
theorem heap_ne {w : World} {j k T U : Nat} {cs ds : Array Value} {fr fs : Nat × Nat} (h : w.heap[j]? = some (.cells cs T fr)) (h' : w.heap[k]? = some (.cells ds U fs)) (hne : T ≠ U) : j ≠ k := by
  intro e
  subst e
  rw [h] at h'
  injection h' with h'
  injection h' with _ ht
  exact hne ht

theorem RowO.fits {lo : Nat} {w : World} {v : Value} {l : List Op} (h : RowO lo w v l) : ∀ x ∈ l, Fits x.text := by
  obtain ⟨ps, rfl, _, h2, _⟩ := h
  intro x hx
  obtain ⟨p, hp, rfl⟩ := List.mem_map.1 hx
  exact (h2 p hp).2

/-- What Follow holds between its rounds. -/
structure FInv (w wr : World) (xb yb wb : Nat) (vx vy vw : Value) (X Y : List Op) (s : List Op × Int) (long : Int) : Prop where
  below : Below w.heap.size w wr
  res : wr.heap[w.heap.size + 2]? = some (.cells #[.int .i64 0, .slice none 0 0] 24 (0, 0))
  hx : wr.heap[xb]? = some (.cells #[vx] 79 (0, 0))
  hy : wr.heap[yb]? = some (.cells #[vy] 79 (0, 0))
  hw : wr.heap[wb]? = some (.cells #[vw, .int .i64 s.2, .int .i64 long] 77 (0, 0))
  rx : RowO w.heap.size wr vx X
  ry : RowO w.heap.size wr vy Y
  ow : OwnO w.heap.size wr vw s.1
  lx : w.heap.size ≤ xb
  ly : w.heap.size ≤ yb
  lw : w.heap.size ≤ wb
  xy : xb ≠ yb
  nxy : ∀ k, vx.ownBlock = some k → vy.ownBlock ≠ some k
  nxw : ∀ k, vx.ownBlock = some k → vw.ownBlock ≠ some k
  nyw : ∀ k, vy.ownBlock = some k → vw.ownBlock ≠ some k
section
variable {w wr w' : World} {xb yb wb : Nat} {vx vy vw : Value} {X Y : List Op} {s : List Op × Int} {long : Int}
theorem FInv.size (h : FInv w wr xb yb wb vx vy vw X Y s long) : xb < wr.heap.size ∧ yb < wr.heap.size ∧ wb < wr.heap.size ∧ w.heap.size + 2 < wr.heap.size :=
  ⟨(Array.getElem?_eq_some_iff.1 h.hx).1, (Array.getElem?_eq_some_iff.1 h.hy).1, (Array.getElem?_eq_some_iff.1 h.hw).1, (Array.getElem?_eq_some_iff.1 h.res).1⟩
/-- Behind a call that lays blocks alone. -/
theorem FInv.far (h : FInv w wr xb yb wb vx vy vw X Y s long) (hb : Below wr.heap.size wr w') : FInv w w' xb yb wb vx vy vw X Y s long := by
  obtain ⟨z1, z2, z3, z4⟩ := h.size
  exact ⟨h.below.trans (hb.mono h.below.size), (hb.block _ z4).trans h.res, (hb.block _ z1).trans h.hx, (hb.block _ z2).trans h.hy, (hb.block _ z3).trans h.hw, h.rx.below hb, h.ry.below hb, h.ow.below hb, h.lx, h.ly, h.lw, h.xy, h.nxy, h.nxw, h.nyw⟩
/-- Behind a call that turns the first reader. -/
theorem FInv.turnX {vx' : Value} {X' : List Op} (h : FInv w wr xb yb wb vx vy vw X Y s long) (hc : Chg (fun k => k = xb ∨ vx.ownBlock = some k) wr w') (hx : w'.heap[xb]? = some (.cells #[vx'] 79 (0, 0))) (rx : RowO w.heap.size w' vx' X') (ho : vx'.ownBlock = vx.ownBlock) :
    FInv w w' xb yb wb vx' vy vw X' Y s long := by
  obtain ⟨z1, z2, z3, z4⟩ := h.size
  have hxo : ∀ k, vx.ownBlock = some k → ∃ cur, wr.heap[k]? = some (.cells cur 30 (0, 0)) := fun k hk => (h.rx.lt k hk).2.2
  have ne : ∀ {k T : Nat} {cs : Array Value} {fr : Nat × Nat}, wr.heap[k]? = some (.cells cs T fr) → k ≠ xb → T ≠ 30 → ¬ (k = xb ∨ vx.ownBlock = some k) := fun hk h1 hT e => by
    rcases e with e | e
    · exact h1 e
    · obtain ⟨_, hk'⟩ := hxo _ e
      exact heap_ne hk hk' hT rfl
  refine ⟨h.below.trans (hc.below h.below.size fun k hk => ?_), (hc.block _ z4 (ne h.res (heap_ne h.res h.hx (by decide)) (by decide))).trans h.res, hx, (hc.block _ z2 (ne h.hy (Ne.symm h.xy) (by decide))).trans h.hy, (hc.block _ z3 (ne h.hw (heap_ne h.hw h.hx (by decide)) (by decide))).trans h.hw, rx, h.ry.chg hc (fun k hk e => ?_) (fun k _ hk e => ?_), h.ow.chg hc (fun k hk e => ?_) (fun k _ hk e => ?_), h.lx, h.ly, h.lw, h.xy, fun k hk => h.nxy k (ho ▸ hk), fun k hk => h.nxw k (ho ▸ hk), h.nyw⟩
  · rcases hk with rfl | hk
    · exact h.lx
    · exact (h.rx.lt k hk).1
  · rcases e with rfl | e
    · obtain ⟨_, _, _, hk⟩ := h.ry.lt _ hk
      exact heap_ne hk h.hx (by decide) rfl
    · exact h.nxy k e hk
  · obtain ⟨_, _, hk⟩ := hk
    rcases e with rfl | e
    · exact heap_ne hk h.hx (by decide) rfl
    · obtain ⟨_, hk'⟩ := hxo _ e
      exact heap_ne hk hk' (by decide) rfl
  · rcases e with rfl | e
    · exact own_ne_blockO h.ow h.hx (by decide) _ hk rfl
    · exact h.nxw k e hk
  · obtain ⟨_, _, hk⟩ := hk
    rcases e with rfl | e
    · exact heap_ne hk h.hx (by decide) rfl
    · obtain ⟨_, hk'⟩ := hxo _ e
      exact heap_ne hk hk' (by decide) rfl
/-- The readers, the one for the other. -/
theorem FInv.swap (h : FInv w wr xb yb wb vx vy vw X Y s long) : FInv w wr yb xb wb vy vx vw Y X s long :=
  ⟨h.below, h.res, h.hy, h.hx, h.hw, h.ry, h.rx, h.ow, h.ly, h.lx, h.lw, Ne.symm h.xy, fun k hk e => h.nxy k e hk, h.nyw, h.nxw⟩
theorem FInv.turnY {vy' : Value} {Y' : List Op} (h : FInv w wr xb yb wb vx vy vw X Y s long) (hc : Chg (fun k => k = yb ∨ vy.ownBlock = some k) wr w') (hy : w'.heap[yb]? = some (.cells #[vy'] 79 (0, 0))) (ry : RowO w.heap.size w' vy' Y') (ho : vy'.ownBlock = vy.ownBlock) :
    FInv w w' xb yb wb vx vy' vw X Y' s long := (h.swap.turnX hc hy ry ho).swap
/-- Behind a method of the writer. -/
theorem FInv.write {s' : List Op × Int} {long' : Int} (h : FInv w wr xb yb wb vx vy vw X Y s long) (hp : WPost w.heap.size wb vw s' long' wr w') : ∃ vw', FInv w w' xb yb wb vx vy vw' X Y s' long' := by
  obtain ⟨z1, z2, z3, z4⟩ := h.size
  obtain ⟨vw', h1, h2, hc, h4⟩ := hp
  have ne : ∀ {k T : Nat} {cs : Array Value} {fr : Nat × Nat}, wr.heap[k]? = some (.cells cs T fr) → T ≠ 77 → T ≠ 30 → ¬ (k = wb ∨ vw.ownBlock = some k) := fun hk hn hT e => by
    rcases e with rfl | e
    · exact heap_ne hk h.hw hn rfl
    · exact own_ne_blockO h.ow hk hT _ e rfl
  have row : ∀ {v l}, RowO w.heap.size wr v l → (∀ k, v.ownBlock = some k → vw.ownBlock ≠ some k) → RowO w.heap.size w' v l := fun hr hn => hr.chg hc (fun k hk e => by
      rcases e with rfl | e
      · obtain ⟨_, _, _, hk⟩ := hr.lt _ hk
        exact heap_ne hk h.hw (by decide) rfl
      · exact hn k hk e) (fun k _ hk e => by
      obtain ⟨_, _, hk⟩ := hk
      exact ne hk (by decide) (by decide) e)
  have fresh : ∀ {v l}, RowO w.heap.size wr v l → (∀ k, v.ownBlock = some k → vw.ownBlock ≠ some k) → ∀ k, v.ownBlock = some k → vw'.ownBlock ≠ some k := fun hr hn k hk e => by
    rcases h4 with h4 | ⟨j, h4, hj⟩
    · rw [h4] at e; exact hn k hk e
    · rw [h4] at e
      injection e with e
      have := (hr.lt k hk).2.1
      omega
  refine ⟨vw', h.below.trans (hc.below h.below.size fun k hk => ?_), (hc.block _ z4 (ne h.res (by decide) (by decide))).trans h.res, (hc.block _ z1 (ne h.hx (by decide) (by decide))).trans h.hx, (hc.block _ z2 (ne h.hy (by decide) (by decide))).trans h.hy, h1, row h.rx h.nxw, row h.ry h.nyw, h2, h.lx, h.ly, h.lw, h.xy, h.nxy, fresh h.rx h.nxw, fresh h.ry h.nyw⟩
  rcases hk with rfl | hk
  · exact h.lw
  · exact (h.ow.lt k hk).1
/-- Attributes of the call's own lie where neither the writer nor its row does. -/
theorem FInv.apart {va : Value} {la : List Attr} {lo : Nat} (h : FInv w wr xb yb wb vx vy vw X Y s long) (ha : OwnA lo wr va la) : ∀ k, va.ownBlock = some k → k ≠ wb ∧ vw.ownBlock ≠ some k := fun k hk => by
  obtain ⟨cs, hk'⟩ := ha.block hk
  exact ⟨heap_ne hk' h.hw (by decide), fun e => own_ne_blockO h.ow hk' (by decide) _ e rfl⟩
end
end Go.Proofs.YtaemajcpgmaapaaDoor
