/- change.row.put: one operation behind the others. -/
import Derived.Test.YtaemajcpgmaapaaDoorOwnO
import Derived.Test.YtaemajcpgmaapaaDoorSameQ
import Derived.Deep.AppendLies
import Derived.Deep.RegionLaw
import Derived.StillTailTactics
namespace Go.Proofs.YtaemajcpgmaapaaDoor
open Go.RowKit

section
variable {ops : Array Oper} {o : Oper} {a : Act} {K : Act → World → Prop} {Q : Exit → Act → World → Prop} {E : Prop} {w : World}
/-- append of one operation, at a step of a region that draws its order. -/
theorem step_append_op1 (hgd : o.guard = none) (s x : Operand) (ho : o.op = .call { callee := .builtin .append, args := #[s, x], argTypes := #[22, 22] })
    (lo : Nat) (v : Value) (l : List Op) (m : Nat) (hm : l.length = m) (p : Op) (va : Value) (B : Nat) (hs : a.eval s = v) (hx : a.eval x = .slice (some ⟨B, 0, none⟩) 1 1) (hB : B = w.heap.size) (hown : OwnO lo w v l) (hva : OwnA lo w va p.attrs) (hft : Fits p.text) (h1 : va.oneCell' = true)
    (hb : (m + 1) * 56 ≤ 140737488355328) (hbase : lo ≤ w.heap.size)
    (h : ∀ g cap w', OwnO lo w' (.slice (some ⟨g, 0, none⟩) (m + 1) cap) (l ++ [p]) → w.grownBy w' v.ownBlock → (v.ownBlock = some g ∨ w.heap.size ≤ g) → K (a.put o.dst (.slice (some ⟨g, 0, none⟩) (m + 1) cap)) w') :
    if Region.wanted o (yielded ops a.tmps) = true then Oper.wp Tryd.prog o a (w.alloc (.cells #[.int .i64 p.kind, .int .i64 p.n, .string p.text, va] 30)) K Q else E := by
  subst hm
  obtain ⟨i, hi, hz0, hz1, hz2⟩ := info_parts infoOp
  obtain ⟨ps, rfl, hrow, hps, hl⟩ := hown
  subst hB
  have hone : ∀ u ∈ [Value.int .i64 p.kind, .int .i64 p.n, .string p.text, va], u.oneCell' = true := by
    intro u hu
    simp only [List.mem_cons, List.not_mem_nil, or_false] at hu
    rcases hu with rfl | rfl | rfl | rfl
    · rfl
    · rfl
    · rfl
    · exact h1
  refine step_append_lies _ hgd s x _ ho lo _ i _ 4 56 Tryd.underlying22 hi hz0 hz1 hz2 rfl (by decide) v _ _ hs (hrow.alloc _) ⟨w.heap.size, 0, none⟩ 1 1 [.int .i64 p.kind, .int .i64 p.n, .string p.text, va] hx rfl
    (World.news_of_block (cs := #[.int .i64 p.kind, .int .i64 p.n, .string p.text, va]) (t := 30) (fr := (0, 0)) (heap_alloc_new w _)) hone (by omega) (by unfold maxLen; omega) hb (by simp; omega) _ rfl ?_
  intro g cap w' h2 h3 hat _
  have hg : w.grownBy w' v.ownBlock := World.grownBy.trans (World.grownBy_alloc w _ _) h3
  refine h g cap w' ⟨ps ++ [(p, va)], by simp, ?_, fun q hq => ?_, by simpa using hb⟩ hg ?_
  · have e : ocells (ps ++ [(p, va)]) = ocells ps ++ [.int .i64 p.kind, .int .i64 p.n, .string p.text, va] := by simp [ocells]
    rw [e]
    simpa using h2
  · have hc : Chg (fun k => v.ownBlock = some k) w w' := Chg.of_grown hg fun k hk => hk
    rcases List.mem_append.1 hq with hq | hq
    · exact ⟨(hps q hq).1.chg hc fun k hk e => own_ne (hps q hq).1.1 hrow (by decide) k hk e, (hps q hq).2⟩
    · simp at hq
      subst hq
      exact ⟨hva.chg hc fun k hk e => own_ne hva.1 hrow (by decide) k hk e, hft⟩
  · rcases hat with hat | hat
    · exact .inl hat
    · exact .inr (by simp at hat; omega)
end

theorem own_ne_blockO {lo : Nat} {w : World} {v : Value} {l : List Op} {g T : Nat} {cs : Array Value} {fr : Nat × Nat} (h : OwnO lo w v l) (hb : w.heap[g]? = some (.cells cs T fr)) (hne : T ≠ 30) : ∀ k, v.ownBlock = some k → k ≠ g := by
  obtain ⟨ps, _, h, _⟩ := h
  exact own_ne_block h hb (Ne.symm hne)

def opLike (a b : Op) : Bool := (a.kind == b.kind) && attrsEq a.attrs b.attrs
/-- o behind the others, as one with the last, if they are alike. -/
def putL (l : List Op) (o : Op) : List Op := match l.getLast? with
  | none => [o]
  | some x => if opLike x o then l.dropLast ++ [⟨x.kind, wrap64 (x.n + o.n), x.text ++ o.text, x.attrs⟩] else l ++ [o]

/-- The last operation of an owned row, in memory. -/
theorem OwnO.last {lo : Nat} {w : World} {g cap : Nat} {l : List Op} {x : Op} (h : OwnO lo w (.slice (some ⟨g, 0, none⟩) (l.length + 1) cap) (l ++ [x])) :
    ∃ vx, OwnA lo w vx x.attrs ∧ Fits x.text ∧ w.cell? ⟨g, l.length * 4, none⟩ = some (.int .i64 x.kind) ∧ w.cell? ⟨g, l.length * 4 + 1, none⟩ = some (.int .i64 x.n) ∧
      w.cell? ⟨g, l.length * 4 + 2, none⟩ = some (.string x.text) ∧ w.cell? ⟨g, l.length * 4 + 3, none⟩ = some vx ∧ (∀ j, w.frozen? ⟨g, j, none⟩ = false) := by
  obtain ⟨ps, hps, h1, h2, h3⟩ := h
  have hl : ps.length = l.length + 1 := by have := congrArg List.length hps; simpa using this
  have hk : l.length < ps.length := by omega
  have hx : ps[l.length].1 = x := by
    have : (ps.map (·.1))[l.length]? = some x := by rw [hps]; simp
    simpa [hk] using this
  have hp := h2 ps[l.length] (List.getElem_mem hk)
  have ha := ocells_at ps l.length hk
  rw [hx] at hp ha
  have e1 : (l ++ [x]).length = l.length + 1 := by simp
  rw [e1] at h1
  exact ⟨_, hp.1, hp.2, (h1.cellAt _ (by omega)).trans ha.1, (h1.cellAt _ (by omega)).trans ha.2.1, (h1.cellAt _ (by omega)).trans ha.2.2.1, (h1.cellAt _ (by omega)).trans ha.2.2.2, h1.frozenAt⟩
theorem ocells_set (l : List (Op × Value)) (p q : Op × Value) (j : Nat) (u : Value) (h : ([.int .i64 p.1.kind, .int .i64 p.1.n, .string p.1.text, p.2] : List Value).set j u = [.int .i64 q.1.kind, .int .i64 q.1.n, .string q.1.text, q.2]) :
    (ocells (l ++ [p])).set (l.length * 4 + j) u = ocells (l ++ [q]) := by
  rw [ocells_append, ocells_append, List.set_append_right _ _ (by rw [ocells_length]; omega), ocells_length]
  simp only [ocells, List.flatMap_cons, List.flatMap_nil, List.append_nil]
  rw [show l.length * 4 + j - l.length * 4 = j by omega, h]
/-- The last operation, turned in its number or its text. -/
theorem OwnO.setLast {lo : Nat} {w : World} {g cap : Nat} {l : List Op} {x y : Op} (h : OwnO lo w (.slice (some ⟨g, 0, none⟩) (l.length + 1) cap) (l ++ [x])) (j : Nat) (u : Value) (hy : y.attrs = x.attrs) (hf : Fits y.text)
    (hj : ∀ v : Value, ([.int .i64 x.kind, .int .i64 x.n, .string x.text, v] : List Value).set j u = [.int .i64 y.kind, .int .i64 y.n, .string y.text, v]) :
    OwnO lo (w.setCell ⟨g, l.length * 4 + j, none⟩ u) (.slice (some ⟨g, 0, none⟩) (l.length + 1) cap) (l ++ [y]) := by
  obtain ⟨ps, hps, h1, h2, h3⟩ := h
  rcases List.eq_nil_or_concat ps with rfl | ⟨p0, p, rfl⟩
  · simp at hps
  rw [List.concat_eq_append] at *
  rw [List.map_append] at hps
  have hinj := List.append_inj' hps (by simp)
  have hl : p0.length = l.length := by rw [← hinj.1]; simp
  have hpx : p.1 = x := by simpa using hinj.2
  have e1 : (l ++ [x]).length = l.length + 1 := by simp
  have e2 : (l ++ [y]).length = l.length + 1 := by simp
  rw [e1] at h1 h3
  have hst := h1.stored (l.length * 4 + j) u
  have hc : Chg (fun k => k = g) w (w.setCell ⟨g, l.length * 4 + j, none⟩ u) := (Chg.refl _ _).setCell _ fun _ => rfl
  have hkeep : ∀ v la, OwnA lo w v la → OwnA lo (w.setCell ⟨g, l.length * 4 + j, none⟩ u) v la := fun v la h => h.chg hc fun k hk e => own_ne h1 h.1 (by decide) g rfl (by rw [← e]; exact hk)
  refine ⟨p0 ++ [(y, p.2)], by rw [List.map_append, hinj.1]; rfl, ?_, fun q hq => ?_, by rw [e2]; exact h3⟩
  · rw [e2, ← ocells_set p0 p (y, p.2) j u (by rw [hpx]; exact hj p.2), hl]
    exact hst.1
  · rcases List.mem_append.1 hq with hq | hq
    · exact ⟨hkeep _ _ (h2 q (List.mem_append_left _ hq)).1, (h2 q (List.mem_append_left _ hq)).2⟩
    · simp at hq
      subst hq
      have := (h2 p (by simp)).1
      rw [hpx] at this
      exact ⟨hkeep _ _ (by rw [hy]; exact this), hf⟩

theorem put_end {w W2 w3 : World} {rb T lo g cap m : Nat} {cs : Array Value} {v : Value} {l l2 : List Op} (_ : w.heap[rb]? = some (.cells cs T (0, 0))) (_ : cs[0]? = some v) (hT1 : T ≠ 30) (hT2 : T ≠ 102)
    (hcg : Chg (fun k => k = w.heap.size) w W2) (hgrow : W2.drew.grownBy w3 v.ownBlock) (hrb3 : w3.heap[rb]? = some (.cells cs T (0, 0)))
    (hown3 : OwnO lo w3 (.slice (some ⟨g, 0, none⟩) m cap) l) (hat : v.ownBlock = some g ∨ W2.heap.size ≤ g) (hz : w.heap.size ≤ W2.heap.size) (hl : l2 = l) :
    ∃ v', (w3.setCell ⟨rb, 0, none⟩ (.slice (some ⟨g, 0, none⟩) m cap)).heap[rb]? = some (.cells (cs.setIfInBounds 0 v') T (0, 0)) ∧ OwnO lo (w3.setCell ⟨rb, 0, none⟩ (.slice (some ⟨g, 0, none⟩) m cap)) v' l2 ∧
      Chg (fun k => k = rb ∨ v.ownBlock = some k) w (w3.setCell ⟨rb, 0, none⟩ (.slice (some ⟨g, 0, none⟩) m cap)) ∧ (v'.ownBlock = v.ownBlock ∨ ∃ k, v'.ownBlock = some k ∧ w.heap.size ≤ k) := by
  subst hl
  have hc3 : Chg (fun k => k = rb) w3 (w3.setCell ⟨rb, 0, none⟩ (.slice (some ⟨g, 0, none⟩) m cap)) := (Chg.refl _ _).setCell _ fun _ => rfl
  refine ⟨.slice (some ⟨g, 0, none⟩) m cap, heap_setCell_same w3 rb 0 cs T _ hrb3, hown3.chg hc3 (fun k hk e => own_ne_blockO hown3 hrb3 hT1 k hk e) (fun k _ hk e => ?_), ?_, ?_⟩
  · obtain ⟨cs', fr, hk⟩ := hk
    subst e
    rw [hrb3] at hk
    injection hk with hk
    injection hk with _ ht
    exact hT2 ht
  · refine Chg.trans (X := fun k => k = rb ∨ v.ownBlock = some k) (Chg.trans (X := fun k => k = rb ∨ v.ownBlock = some k) (hcg.mono fun k hk e => absurd e (by omega)).drew (Chg.of_grown (X := fun k => v.ownBlock = some k) hgrow fun k hk => hk) fun k _ e => .inr e) hc3 fun k _ e => .inl e
  · rcases hat with hat | hat
    · exact .inl hat.symm
    · exact .inr ⟨g, rfl, by omega⟩

theorem put_join {w W1 : World} {rb T lo g c : Nat} {cs : Array Value} {l : List Op} {x : Op} {n : Int} {text : ByteArray} {u : Nat} {l2 : List Op} {la : List Attr} (hrb : w.heap[rb]? = some (.cells cs T (0, 0))) (hcs : cs[0]? = some (.slice (some ⟨g, 0, none⟩) (l.length + 1) c)) (hT1 : T ≠ 30)
    (hown : OwnO lo w (.slice (some ⟨g, 0, none⟩) (l.length + 1) c) (l ++ [x])) (hb0 : Below w.heap.size w W1) (hf : x.text.size + text.size ≤ 140737488355328) (hat : attrsEq x.attrs la = true) (hl2 : l2 = putL (l ++ [x]) ⟨x.kind, n, text, la⟩) (hu : u = l.length * 4) :
    ∃ v', ((W1.setCell ⟨g, u + 1, none⟩ (.int .i64 (wrap64 (x.n + n)))).setCell ⟨g, u + 2, none⟩ (.string (x.text ++ text))).drew.drew.heap[rb]? = some (.cells (cs.setIfInBounds 0 v') T (0, 0)) ∧
      OwnO lo ((W1.setCell ⟨g, u + 1, none⟩ (.int .i64 (wrap64 (x.n + n)))).setCell ⟨g, u + 2, none⟩ (.string (x.text ++ text))).drew.drew v' l2 ∧
      Chg (fun k => k = rb ∨ (Value.slice (some ⟨g, 0, none⟩) (l.length + 1) c).ownBlock = some k) w ((W1.setCell ⟨g, u + 1, none⟩ (.int .i64 (wrap64 (x.n + n)))).setCell ⟨g, u + 2, none⟩ (.string (x.text ++ text))).drew.drew ∧
      (v'.ownBlock = (Value.slice (some ⟨g, 0, none⟩) (l.length + 1) c).ownBlock ∨ ∃ k, v'.ownBlock = some k ∧ w.heap.size ≤ k) := by
  subst hl2 hu
  have hrbw : rb < w.heap.size := (Array.getElem?_eq_some_iff.1 hrb).1
  have ne1 : g ≠ rb := own_ne_blockO hown hrb hT1 g rfl
  have hc : Chg (fun k => k = g) w ((W1.setCell ⟨g, l.length * 4 + 1, none⟩ (.int .i64 (wrap64 (x.n + n)))).setCell ⟨g, l.length * 4 + 2, none⟩ (.string (x.text ++ text))) :=
    ((Chg.of_below hb0 (fun k => k = g)).setCell (p := ⟨g, l.length * 4 + 1, none⟩) _ fun _ => rfl).setCell (p := ⟨g, l.length * 4 + 2, none⟩) _ fun _ => rfl
  refine ⟨.slice (some ⟨g, 0, none⟩) (l.length + 1) c, ?_, ?_, hc.mono (Y := fun k => k = rb ∨ (Value.slice (some ⟨g, 0, none⟩) (l.length + 1) c).ownBlock = some k) (fun k _ e => .inr (by rw [e]; rfl)) |>.drew.drew, .inl rfl⟩
  · refine (hc.block rb hrbw (Ne.symm ne1)).trans ?_
    rw [hrb]
    have : cs.setIfInBounds 0 (.slice (some ⟨g, 0, none⟩) (l.length + 1) c) = cs := by
      obtain ⟨h0, h1⟩ := Array.getElem?_eq_some_iff.1 hcs
      refine Array.ext (by simp) fun i hi1 hi2 => ?_
      rw [Array.getElem_setIfInBounds]
      split
      · next e => subst e; exact h1.symm
      · rfl
    rw [this]
  · have hp : putL (l ++ [x]) ⟨x.kind, n, text, la⟩ = l ++ [⟨x.kind, wrap64 (x.n + n), x.text ++ text, x.attrs⟩] := by simp [putL, opLike, hat]
    rw [hp]
    have hfx : Fits x.text := by unfold Fits; omega
    have h1 := (hown.below hb0).setLast (y := ⟨x.kind, wrap64 (x.n + n), x.text, x.attrs⟩) 1 (.int .i64 (wrap64 (x.n + n))) rfl hfx (fun _ => rfl)
    have h2 := h1.setLast (y := ⟨x.kind, wrap64 (x.n + n), x.text ++ text, x.attrs⟩) 2 (.string (x.text ++ text)) rfl (by unfold Fits; simp [ByteArray.size_append]; omega) (fun _ => rfl)
    exact h2.below (Below.refl _ _).drew.drew

set_option maxRecDepth 100000 in
set_option maxHeartbeats 4000000 in
theorem rowPut (rb : Nat) (cs : Array Value) (T : Nat) (v : Value) (l : List Op) (lo : Nat) (kind n : Int) (text : ByteArray) (va : Value) (la : List Attr) (S : Nat → Prop) (w : World)
    (hrb : w.heap[rb]? = some (.cells cs T (0, 0))) (hcs : cs[0]? = some v) (hlo : lo ≤ rb) (hT1 : T ≠ 30) (hT2 : T ≠ 102) (hown : OwnO lo w v l) (hva : Rd KA S w va la) (hft : Fits text)
    (hsz : ∀ x ∈ l, x.text.size + text.size ≤ 140737488355328) (hlen : (l.length + 1) * 56 ≤ 140737488355328) :
    Calls Tryd.prog 94 #[.pointer (some ⟨rb, 0, none⟩), .agg #[.int .i64 kind, .int .i64 n, .string text, va]] w fun e w' => e = .returned (.tuple #[]) ∧
      ∃ v', w'.heap[rb]? = some (.cells (cs.setIfInBounds 0 v') T (0, 0)) ∧ OwnO lo w' v' (putL l ⟨kind, n, text, la⟩) ∧ Chg (fun k => k = rb ∨ v.ownBlock = some k) w w' ∧ (v'.ownBlock = v.ownBlock ∨ ∃ k, v'.ownBlock = some k ∧ w.heap.size ≤ k) := by
  have hrbw : rb < w.heap.size := (Array.getElem?_eq_some_iff.1 hrb).1
  have hc0 : w.cell? ⟨rb, 0, none⟩ = some v := by rw [cell_of_row w rb 0 cs T (0, 0) hrb]; exact hcs
  have hfz : w.frozen? ⟨rb, 0, none⟩ = false := by simp [World.frozen?, hrb]
  obtain ⟨A, c, rfl, hAc, hr⟩ := hown.rd
  rcases List.eq_nil_or_concat l with rfl | ⟨l0, x, rfl⟩
  · obtain ⟨A2, c2, rfl, hA2, hr2⟩ := hva
    simp only [List.length_nil] at *
    go_enter Tryd.func94, Tryd.ntmps94
    go_wp2_with fail
    go_quiet (fail)
    go_wp2_with fail
    have c1 := clone_any (.slice A2 la.length c2) la S
    have hb0 : Below w.heap.size w ((w.alloc (.cells #[.int .i64 kind, .int .i64 n, .string text, .slice A2 la.length c2] 30)).drewN nq) := below_drewN ((Below.refl _ _).alloc (Nat.le_refl _) _) _
    refine (c1 _ (Rd.below ⟨A2, c2, rfl, hA2, hr2⟩ hb0)).mono ?_
    rintro e w1 ⟨v3, rfl, hb1, ho1⟩
    have hq1 := (bcell hb1).1
    have hq2 := (bcell hb1).2
    have hb1' : Below w.heap.size w w1 := hb0.trans (hb1.mono hb0.size)
    have hz1 : w.heap.size < w1.heap.size := by have := hb1.size; simp at this; omega
    obtain ⟨A3, c3, rfl, hA3, hr3⟩ := ho1.rd
    have hc1 := (hb1'.cell (p := ⟨rb, 0, none⟩) hrbw).trans hc0
    have hfz1 := (hb1'.frozen (p := ⟨rb, 0, none⟩) hrbw).trans hfz
    go_wp2_with fail
    have hcg : Chg (fun k => k = w.heap.size) w (w1.setCell ⟨w.heap.size, 3, none⟩ (.slice A3 la.length c3)) := (Chg.of_below hb1' _).setCell _ fun _ => rfl
    have ho2 : OwnO lo (w1.setCell ⟨w.heap.size, 3, none⟩ (.slice A3 la.length c3)) _ _ := hown.chg hcg (fun k hk e => by have := (hown.lt k hk).2; omega) (fun k _ hk e => by obtain ⟨_, _, hk⟩ := hk; have := (Array.getElem?_eq_some_iff.1 hk).1; omega)
    have hoa2 : OwnA lo (w1.setCell ⟨w.heap.size, 3, none⟩ (.slice A3 la.length c3)) (.slice A3 la.length c3) la := (ho1.mono (by simp; omega)).chg (X := fun k => k = w.heap.size) ((Chg.refl _ w1).setCell _ fun _ => rfl) (fun k hk e => by have := (ho1.1.lt k hk).1; simp at this; omega)
    have hk0 : (w1.setCell ⟨w.heap.size, 3, none⟩ (.slice A3 la.length c3)).cell? ⟨w.heap.size, 0, none⟩ = some (.int .i64 kind) := (World.cell?_setCell_other _ _ _ _ (by simp)).trans ((hq1 w.heap.size 0 (by simp)).trans (cell_of_row _ w.heap.size 0 _ _ _ (heap_alloc_new w _)))
    have hk1 : (w1.setCell ⟨w.heap.size, 3, none⟩ (.slice A3 la.length c3)).cell? ⟨w.heap.size, 1, none⟩ = some (.int .i64 n) := (World.cell?_setCell_other _ _ _ _ (by simp)).trans ((hq1 w.heap.size 1 (by simp)).trans (cell_of_row _ w.heap.size 1 _ _ _ (heap_alloc_new w _)))
    have hk2 : (w1.setCell ⟨w.heap.size, 3, none⟩ (.slice A3 la.length c3)).cell? ⟨w.heap.size, 2, none⟩ = some (.string text) := (World.cell?_setCell_other _ _ _ _ (by simp)).trans ((hq1 w.heap.size 2 (by simp)).trans (cell_of_row _ w.heap.size 2 _ _ _ (heap_alloc_new w _)))
    have hk3 : (w1.setCell ⟨w.heap.size, 3, none⟩ (.slice A3 la.length c3)).cell? ⟨w.heap.size, 3, none⟩ = some (.slice A3 la.length c3) := World.cell?_setCell_same w1 _ _ ((hq1 w.heap.size 3 (by simp)).trans (cell_of_row _ w.heap.size 3 _ _ _ (heap_alloc_new w _)))
    have hrb2 : (w1.setCell ⟨w.heap.size, 3, none⟩ (.slice A3 la.length c3)).heap[rb]? = some (.cells cs T (0, 0)) := (hcg.block rb hrbw (by omega)).trans hrb
    have hz2 := hcg.size
    have hz3 : w.heap.size < (w1.setCell ⟨w.heap.size, 3, none⟩ (.slice A3 la.length c3)).heap.size := by simp [World.setCell]; omega
    generalize w1.setCell ⟨w.heap.size, 3, none⟩ (.slice A3 la.length c3) = W2 at *
    have hr2 : W2.cell? ⟨rb, 0, none⟩ = some (.slice A 0 c) := by rw [cell_of_row W2 rb 0 cs T (0, 0) hrb2]; exact hcs
    have hf2 : W2.frozen? ⟨rb, 0, none⟩ = false := by simp [World.frozen?, hrb2]
    have q1 : Hid (OwnO lo W2.drew (.slice A 0 c) []) := OwnO.below ho2 (Below.refl _ _).drew
    have q2 : Hid (OwnA lo W2.drew (.slice A3 la.length c3) la) := OwnA.below hoa2 (Below.refl _ _).drew
    have q3 : lo ≤ W2.heap.size := by omega
    have q5 : Hid (putL [] ⟨kind, n, text, la⟩ = [⟨kind, n, text, la⟩]) := rfl
    have q4 : Hid (∀ k, (Value.slice A 0 c).ownBlock = some k → k ≠ rb) := own_ne_blockO ho2 hrb2 hT1
    have hr2a : ∀ o, (W2.alloc o).cell? ⟨rb, 0, none⟩ = some (.slice A 0 c) := fun o => (World.cell?_of_block (Below.heap_alloc W2 o rb (by omega))).trans hr2
    go_region_law ((
      refine step_append_op1 (by rfl) (.tmp 76) (.tmp 78) (by rfl) lo (.slice A 0 c) [] 0 rfl ⟨kind, n, text, la⟩ (.slice A3 la.length c3) W2.heap.size (by simp [Act.eval]) (by simp [Act.eval]) (by simp) q1.out q2.out hft (by rfl) (by decide) (by simpa using q3) ?_
      intro g cap w3 hown3 hgrow hat
      have hrb3 := (hgrow.block rb (by simp; omega) (fun e => q4.out rb e.symm rfl)).trans hrb2
      have hr3 : w3.cell? ⟨rb, 0, none⟩ = some (.slice A 0 c) := (hgrow.cell_far ⟨rb, 0, none⟩ (by simp; omega) (fun e => q4.out rb e.symm rfl)).trans hr2
      have hf3 : w3.frozen? ⟨rb, 0, none⟩ = false := (hgrow.frozen_far ⟨rb, 0, none⟩ (by simp; omega) (fun e => q4.out rb e.symm rfl)).trans hf2))
    all_goals
      go_wp2
      refine bodyPost_end (results_none rfl _ _ _) rfl ⟨rfl, ?_⟩
      exact put_end hrb hcs hT1 hT2 hcg hgrow hrb3 hown3 hat hz2 q5.out
  · rw [List.concat_eq_append] at *
    obtain ⟨A2, c2, rfl, hA2, hr2⟩ := hva
    have e1 : (l0 ++ [x]).length = l0.length + 1 := by simp
    have hx := hsz x (by simp)
    rw [e1] at hcs hown hc0 hlen hAc ⊢
    obtain ⟨g0, rfl⟩ : ∃ g0, A = some ⟨g0, 0, none⟩ := by
      obtain ⟨ps, hps, h1, _, _⟩ := hown
      rcases h1.2 with ⟨h', _⟩ | ⟨g', cap', cur, h', _⟩
      · simp at h'
      · simp at h'
        exact ⟨g', by rw [h'.1]⟩
    obtain ⟨vx, hox, hfx, hx0, hx1, hx2, hx3, hxf⟩ := hown.last
    have hxf0 := hxf
    obtain ⟨A4, c4, rfl, hA4, hr4⟩ := hox.rd
    have hg0w : g0 < w.heap.size := (hown.lt g0 rfl).2
    have hwr : IntKind.i64.wrap ((l0.length + 1 : Nat) - 1 : Int) = l0.length := by have := hlen; rw [show ((l0.length + 1 : Nat) - 1 : Int) = (l0.length : Int) by omega, IntKind.wrap_i64]; omega
    have hwr2 : IntKind.i64.wrap ((l0.length : Int) + 1 - 1) = l0.length := by have := hlen; rw [show ((l0.length : Int) + 1 - 1) = (l0.length : Int) by omega, IntKind.wrap_i64]; omega
    have hlt1 : (l0.length : Int) < (l0.length + 1 : Nat) := by omega
    have hlt2 : (l0.length : Int) < (l0.length : Int) + 1 := by omega
    have hlt3 : (0 : Int) ≤ (l0.length : Int) := by omega
    have hgt : decide ((0 : Int) < (l0.length + 1 : Nat)) = true := by simp
    have cq := same_q (.slice A4 x.attrs.length c4) (.slice A2 la.length c2) x.attrs la (fun k => lo ≤ k) S
    by_cases hkd : x.kind = kind
    · cases hat : attrsEq x.attrs la with
      | true =>
        rw [hat] at cq
        subst hkd
        have hke : (x.kind == x.kind) = true := by simp
        go_enter Tryd.func94, Tryd.ntmps94
        go_wp2_with fail
        go_quiet (first | (go_at_call 98; refine Calls.quiet_of (cq _ ?_ ?_); exact Rd.below ⟨A4, c4, rfl, hA4, hr4⟩ (below_drewN ((Below.refl _ _).alloc (Nat.le_refl _) _) _); exact Rd.below ⟨A2, c2, rfl, hA2, hr2⟩ (below_drewN ((Below.refl _ _).alloc (Nat.le_refl _) _) _)))
        have hb0 : Below w.heap.size w ((w.alloc (.cells #[.int .i64 x.kind, .int .i64 n, .string text, .slice A2 la.length c2] 30)).drewN nq) := below_drewN ((Below.refl _ _).alloc (Nat.le_refl _) _) _
        have p1 := (hb0.cell (p := ⟨rb, 0, none⟩) hrbw).trans hc0
        have p2 := (hb0.frozen (p := ⟨rb, 0, none⟩) hrbw).trans hfz
        have p3 := (hb0.cell (p := ⟨g0, l0.length * 4 + 1, none⟩) hg0w).trans hx1
        have p4 := (hb0.cell (p := ⟨g0, l0.length * 4 + 2, none⟩) hg0w).trans hx2
        have p5 := (hb0.frozen (p := ⟨g0, l0.length * 4 + 1, none⟩) hg0w).trans (hxf _)
        have p6 := (hb0.frozen (p := ⟨g0, l0.length * 4 + 2, none⟩) hg0w).trans (hxf _)
        have p7 : ((w.alloc (.cells #[.int .i64 x.kind, .int .i64 n, .string text, .slice A2 la.length c2] 30)).drewN nq).cell? ⟨w.heap.size, 1, none⟩ = some (.int .i64 n) := cell_of_row _ w.heap.size 1 _ _ _ (heap_alloc_new w _)
        have p8 : ((w.alloc (.cells #[.int .i64 x.kind, .int .i64 n, .string text, .slice A2 la.length c2] 30)).drewN nq).cell? ⟨w.heap.size, 2, none⟩ = some (.string text) := cell_of_row _ w.heap.size 2 _ _ _ (heap_alloc_new w _)
        have ne1 : g0 ≠ rb := own_ne_blockO hown hrb hT1 g0 rfl
        have ne2 : g0 ≠ w.heap.size := by omega
        have ne3 : rb ≠ w.heap.size := by omega
        generalize ((w.alloc (.cells #[.int .i64 x.kind, .int .i64 n, .string text, .slice A2 la.length c2] 30)).drewN nq) = W1 at *
        go_wp2_with fail
        go_region
        have p9 : (W1.setCell ⟨g0, l0.length * 4 + 1, none⟩ (.int .i64 (wrap64 (x.n + n)))).cell? ⟨rb, 0, none⟩ = some (.slice (some ⟨g0, 0, none⟩) (l0.length + 1) c) := (World.cell?_setCell_other _ _ _ _ (by simp)).trans p1
        have p10 : (W1.setCell ⟨g0, l0.length * 4 + 1, none⟩ (.int .i64 (wrap64 (x.n + n)))).cell? ⟨g0, l0.length * 4 + 2, none⟩ = some (.string x.text) := (World.cell?_setCell_other _ _ _ _ (by simp)).trans p4
        have p11 : (W1.setCell ⟨g0, l0.length * 4 + 1, none⟩ (.int .i64 (wrap64 (x.n + n)))).cell? ⟨w.heap.size, 2, none⟩ = some (.string text) := (World.cell?_setCell_other _ _ _ _ (by simp)).trans p8
        have p12 : (W1.setCell ⟨g0, l0.length * 4 + 1, none⟩ (.int .i64 (wrap64 (x.n + n)))).frozen? ⟨g0, l0.length * 4 + 2, none⟩ = false := by simp [p6]
        go_wp2_with fail
        go_region
        go_wp2_with fail
        refine bodyPost_ret (results_none rfl _ _ _) rfl ⟨rfl, ?_⟩
        exact put_join hrb hcs hT1 hown hb0 hx hat rfl rfl
      | false =>
        rw [hat] at cq
        have hno : (x.kind == kind && attrsEq x.attrs la) = false := by simp [hat]
        have hke : (x.kind == kind) = true := by simp [hkd]
        go_enter Tryd.func94, Tryd.ntmps94
        go_wp2_with fail
        go_quiet (first | (go_at_call 98; refine Calls.quiet_of (cq _ ?_ ?_); exact Rd.below ⟨A4, c4, rfl, hA4, hr4⟩ (below_drewN ((Below.refl _ _).alloc (Nat.le_refl _) _) _); exact Rd.below ⟨A2, c2, rfl, hA2, hr2⟩ (below_drewN ((Below.refl _ _).alloc (Nat.le_refl _) _) _)))
        go_wp2_with fail
        have c1 := clone_any (.slice A2 la.length c2) la S
        have hb0 : Below w.heap.size w ((w.alloc (.cells #[.int .i64 kind, .int .i64 n, .string text, .slice A2 la.length c2] 30)).drewN nq) := below_drewN ((Below.refl _ _).alloc (Nat.le_refl _) _) _
        refine (c1 _ (Rd.below ⟨A2, c2, rfl, hA2, hr2⟩ hb0)).mono ?_
        rintro e w1 ⟨v3, rfl, hb1, ho1⟩
        have hq1 := (bcell hb1).1
        have hq2 := (bcell hb1).2
        have hb1' : Below w.heap.size w w1 := hb0.trans (hb1.mono hb0.size)
        have hz1 : w.heap.size < w1.heap.size := by have := hb1.size; simp at this; omega
        obtain ⟨A3, c3, rfl, hA3, hr3⟩ := ho1.rd
        have hc1 := (hb1'.cell (p := ⟨rb, 0, none⟩) hrbw).trans hc0
        have hfz1 := (hb1'.frozen (p := ⟨rb, 0, none⟩) hrbw).trans hfz
        go_wp2_with fail
        have hcg : Chg (fun k => k = w.heap.size) w (w1.setCell ⟨w.heap.size, 3, none⟩ (.slice A3 la.length c3)) := (Chg.of_below hb1' _).setCell _ fun _ => rfl
        have ho2 : OwnO lo (w1.setCell ⟨w.heap.size, 3, none⟩ (.slice A3 la.length c3)) _ _ := hown.chg hcg (fun k hk e => by have := (hown.lt k hk).2; omega) (fun k _ hk e => by obtain ⟨_, _, hk⟩ := hk; have := (Array.getElem?_eq_some_iff.1 hk).1; omega)
        have hoa2 : OwnA lo (w1.setCell ⟨w.heap.size, 3, none⟩ (.slice A3 la.length c3)) (.slice A3 la.length c3) la := (ho1.mono (by simp; omega)).chg (X := fun k => k = w.heap.size) ((Chg.refl _ w1).setCell _ fun _ => rfl) (fun k hk e => by have := (ho1.1.lt k hk).1; simp at this; omega)
        have hk0 : (w1.setCell ⟨w.heap.size, 3, none⟩ (.slice A3 la.length c3)).cell? ⟨w.heap.size, 0, none⟩ = some (.int .i64 kind) := (World.cell?_setCell_other _ _ _ _ (by simp)).trans ((hq1 w.heap.size 0 (by simp)).trans (cell_of_row _ w.heap.size 0 _ _ _ (heap_alloc_new w _)))
        have hk1 : (w1.setCell ⟨w.heap.size, 3, none⟩ (.slice A3 la.length c3)).cell? ⟨w.heap.size, 1, none⟩ = some (.int .i64 n) := (World.cell?_setCell_other _ _ _ _ (by simp)).trans ((hq1 w.heap.size 1 (by simp)).trans (cell_of_row _ w.heap.size 1 _ _ _ (heap_alloc_new w _)))
        have hk2 : (w1.setCell ⟨w.heap.size, 3, none⟩ (.slice A3 la.length c3)).cell? ⟨w.heap.size, 2, none⟩ = some (.string text) := (World.cell?_setCell_other _ _ _ _ (by simp)).trans ((hq1 w.heap.size 2 (by simp)).trans (cell_of_row _ w.heap.size 2 _ _ _ (heap_alloc_new w _)))
        have hk3 : (w1.setCell ⟨w.heap.size, 3, none⟩ (.slice A3 la.length c3)).cell? ⟨w.heap.size, 3, none⟩ = some (.slice A3 la.length c3) := World.cell?_setCell_same w1 _ _ ((hq1 w.heap.size 3 (by simp)).trans (cell_of_row _ w.heap.size 3 _ _ _ (heap_alloc_new w _)))
        have hrb2 : (w1.setCell ⟨w.heap.size, 3, none⟩ (.slice A3 la.length c3)).heap[rb]? = some (.cells cs T (0, 0)) := (hcg.block rb hrbw (by omega)).trans hrb
        have hz2 := hcg.size
        have hz3 : w.heap.size < (w1.setCell ⟨w.heap.size, 3, none⟩ (.slice A3 la.length c3)).heap.size := by simp [World.setCell]; omega
        generalize w1.setCell ⟨w.heap.size, 3, none⟩ (.slice A3 la.length c3) = W2 at *
        have hr2' : W2.cell? ⟨rb, 0, none⟩ = some (.slice (some ⟨g0, 0, none⟩) (l0.length + 1) c) := by rw [cell_of_row W2 rb 0 cs T (0, 0) hrb2]; exact hcs
        have hf2 : W2.frozen? ⟨rb, 0, none⟩ = false := by simp [World.frozen?, hrb2]
        have q1 : Hid (OwnO lo W2.drew (.slice (some ⟨g0, 0, none⟩) (l0.length + 1) c) (l0 ++ [x])) := OwnO.below ho2 (Below.refl _ _).drew
        have q2 : Hid (OwnA lo W2.drew (.slice A3 la.length c3) la) := OwnA.below hoa2 (Below.refl _ _).drew
        have q3 : lo ≤ W2.heap.size := by omega
        have q5 : Hid (putL (l0 ++ [x]) ⟨kind, n, text, la⟩ = (l0 ++ [x]) ++ [⟨kind, n, text, la⟩]) := by unfold Hid; simp [putL, opLike, hno]
        have q4 : Hid (∀ k, (Value.slice (some ⟨g0, 0, none⟩) (l0.length + 1) c).ownBlock = some k → k ≠ rb) := own_ne_blockO ho2 hrb2 hT1
        have hr2a : ∀ o, (W2.alloc o).cell? ⟨rb, 0, none⟩ = some (.slice (some ⟨g0, 0, none⟩) (l0.length + 1) c) := fun o => (World.cell?_of_block (Below.heap_alloc W2 o rb (by omega))).trans hr2'
        go_region_law ((
          refine step_append_op1 (by rfl) (.tmp 76) (.tmp 78) (by rfl) lo (.slice (some ⟨g0, 0, none⟩) (l0.length + 1) c) (l0 ++ [x]) (l0.length + 1) e1 ⟨kind, n, text, la⟩ (.slice A3 la.length c3) W2.heap.size (by simp [Act.eval]) (by simp [Act.eval]) (by simp) q1.out q2.out hft (by rfl) hlen (by simpa using q3) ?_
          intro g cap w3 hown3 hgrow hat
          have hrb3 := (hgrow.block rb (by simp; omega) (fun e => q4.out rb e.symm rfl)).trans hrb2
          have hr3 : w3.cell? ⟨rb, 0, none⟩ = some (.slice (some ⟨g0, 0, none⟩) (l0.length + 1) c) := (hgrow.cell_far ⟨rb, 0, none⟩ (by simp; omega) (fun e => q4.out rb e.symm rfl)).trans hr2'
          have hf3 : w3.frozen? ⟨rb, 0, none⟩ = false := (hgrow.frozen_far ⟨rb, 0, none⟩ (by simp; omega) (fun e => q4.out rb e.symm rfl)).trans hf2))
        all_goals
          go_wp2
          refine bodyPost_end (results_none rfl _ _ _) rfl ⟨rfl, ?_⟩
          exact put_end hrb hcs hT1 hT2 hcg hgrow hrb3 hown3 hat hz2 q5.out
    · have hno : (x.kind == kind && attrsEq x.attrs la) = false := by simp [hkd]
      have hke : (x.kind == kind) = false := by simp [hkd]
      go_enter Tryd.func94, Tryd.ntmps94
      go_wp2_with fail
      go_quiet (fail)
      go_wp2_with fail
      have c1 := clone_any (.slice A2 la.length c2) la S
      have hb0 : Below w.heap.size w ((w.alloc (.cells #[.int .i64 kind, .int .i64 n, .string text, .slice A2 la.length c2] 30)).drewN nq) := below_drewN ((Below.refl _ _).alloc (Nat.le_refl _) _) _
      refine (c1 _ (Rd.below ⟨A2, c2, rfl, hA2, hr2⟩ hb0)).mono ?_
      rintro e w1 ⟨v3, rfl, hb1, ho1⟩
      have hq1 := (bcell hb1).1
      have hq2 := (bcell hb1).2
      have hb1' : Below w.heap.size w w1 := hb0.trans (hb1.mono hb0.size)
      have hz1 : w.heap.size < w1.heap.size := by have := hb1.size; simp at this; omega
      obtain ⟨A3, c3, rfl, hA3, hr3⟩ := ho1.rd
      have hc1 := (hb1'.cell (p := ⟨rb, 0, none⟩) hrbw).trans hc0
      have hfz1 := (hb1'.frozen (p := ⟨rb, 0, none⟩) hrbw).trans hfz
      go_wp2_with fail
      have hcg : Chg (fun k => k = w.heap.size) w (w1.setCell ⟨w.heap.size, 3, none⟩ (.slice A3 la.length c3)) := (Chg.of_below hb1' _).setCell _ fun _ => rfl
      have ho2 : OwnO lo (w1.setCell ⟨w.heap.size, 3, none⟩ (.slice A3 la.length c3)) _ _ := hown.chg hcg (fun k hk e => by have := (hown.lt k hk).2; omega) (fun k _ hk e => by obtain ⟨_, _, hk⟩ := hk; have := (Array.getElem?_eq_some_iff.1 hk).1; omega)
      have hoa2 : OwnA lo (w1.setCell ⟨w.heap.size, 3, none⟩ (.slice A3 la.length c3)) (.slice A3 la.length c3) la := (ho1.mono (by simp; omega)).chg (X := fun k => k = w.heap.size) ((Chg.refl _ w1).setCell _ fun _ => rfl) (fun k hk e => by have := (ho1.1.lt k hk).1; simp at this; omega)
      have hk0 : (w1.setCell ⟨w.heap.size, 3, none⟩ (.slice A3 la.length c3)).cell? ⟨w.heap.size, 0, none⟩ = some (.int .i64 kind) := (World.cell?_setCell_other _ _ _ _ (by simp)).trans ((hq1 w.heap.size 0 (by simp)).trans (cell_of_row _ w.heap.size 0 _ _ _ (heap_alloc_new w _)))
      have hk1 : (w1.setCell ⟨w.heap.size, 3, none⟩ (.slice A3 la.length c3)).cell? ⟨w.heap.size, 1, none⟩ = some (.int .i64 n) := (World.cell?_setCell_other _ _ _ _ (by simp)).trans ((hq1 w.heap.size 1 (by simp)).trans (cell_of_row _ w.heap.size 1 _ _ _ (heap_alloc_new w _)))
      have hk2 : (w1.setCell ⟨w.heap.size, 3, none⟩ (.slice A3 la.length c3)).cell? ⟨w.heap.size, 2, none⟩ = some (.string text) := (World.cell?_setCell_other _ _ _ _ (by simp)).trans ((hq1 w.heap.size 2 (by simp)).trans (cell_of_row _ w.heap.size 2 _ _ _ (heap_alloc_new w _)))
      have hk3 : (w1.setCell ⟨w.heap.size, 3, none⟩ (.slice A3 la.length c3)).cell? ⟨w.heap.size, 3, none⟩ = some (.slice A3 la.length c3) := World.cell?_setCell_same w1 _ _ ((hq1 w.heap.size 3 (by simp)).trans (cell_of_row _ w.heap.size 3 _ _ _ (heap_alloc_new w _)))
      have hrb2 : (w1.setCell ⟨w.heap.size, 3, none⟩ (.slice A3 la.length c3)).heap[rb]? = some (.cells cs T (0, 0)) := (hcg.block rb hrbw (by omega)).trans hrb
      have hz2 := hcg.size
      have hz3 : w.heap.size < (w1.setCell ⟨w.heap.size, 3, none⟩ (.slice A3 la.length c3)).heap.size := by simp [World.setCell]; omega
      generalize w1.setCell ⟨w.heap.size, 3, none⟩ (.slice A3 la.length c3) = W2 at *
      have hr2' : W2.cell? ⟨rb, 0, none⟩ = some (.slice (some ⟨g0, 0, none⟩) (l0.length + 1) c) := by rw [cell_of_row W2 rb 0 cs T (0, 0) hrb2]; exact hcs
      have hf2 : W2.frozen? ⟨rb, 0, none⟩ = false := by simp [World.frozen?, hrb2]
      have q1 : Hid (OwnO lo W2.drew (.slice (some ⟨g0, 0, none⟩) (l0.length + 1) c) (l0 ++ [x])) := OwnO.below ho2 (Below.refl _ _).drew
      have q2 : Hid (OwnA lo W2.drew (.slice A3 la.length c3) la) := OwnA.below hoa2 (Below.refl _ _).drew
      have q3 : lo ≤ W2.heap.size := by omega
      have q5 : Hid (putL (l0 ++ [x]) ⟨kind, n, text, la⟩ = (l0 ++ [x]) ++ [⟨kind, n, text, la⟩]) := by unfold Hid; simp [putL, opLike, hno]
      have q4 : Hid (∀ k, (Value.slice (some ⟨g0, 0, none⟩) (l0.length + 1) c).ownBlock = some k → k ≠ rb) := own_ne_blockO ho2 hrb2 hT1
      have hr2a : ∀ o, (W2.alloc o).cell? ⟨rb, 0, none⟩ = some (.slice (some ⟨g0, 0, none⟩) (l0.length + 1) c) := fun o => (World.cell?_of_block (Below.heap_alloc W2 o rb (by omega))).trans hr2'
      go_region_law ((
        refine step_append_op1 (by rfl) (.tmp 76) (.tmp 78) (by rfl) lo (.slice (some ⟨g0, 0, none⟩) (l0.length + 1) c) (l0 ++ [x]) (l0.length + 1) e1 ⟨kind, n, text, la⟩ (.slice A3 la.length c3) W2.heap.size (by simp [Act.eval]) (by simp [Act.eval]) (by simp) q1.out q2.out hft (by rfl) hlen (by simpa using q3) ?_
        intro g cap w3 hown3 hgrow hat
        have hrb3 := (hgrow.block rb (by simp; omega) (fun e => q4.out rb e.symm rfl)).trans hrb2
        have hr3 : w3.cell? ⟨rb, 0, none⟩ = some (.slice (some ⟨g0, 0, none⟩) (l0.length + 1) c) := (hgrow.cell_far ⟨rb, 0, none⟩ (by simp; omega) (fun e => q4.out rb e.symm rfl)).trans hr2'
        have hf3 : w3.frozen? ⟨rb, 0, none⟩ = false := (hgrow.frozen_far ⟨rb, 0, none⟩ (by simp; omega) (fun e => q4.out rb e.symm rfl)).trans hf2))
      all_goals
        go_wp2
        refine bodyPost_end (results_none rfl _ _ _) rfl ⟨rfl, ?_⟩
        exact put_end hrb hcs hT1 hT2 hcg hgrow hrb3 hown3 hat hz2 q5.out
end Go.Proofs.YtaemajcpgmaapaaDoor
