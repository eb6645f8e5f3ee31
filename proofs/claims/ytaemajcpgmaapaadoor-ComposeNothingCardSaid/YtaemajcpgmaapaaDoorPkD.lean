/- Operations of the call's own; a frame that says which blocks may have changed. | change.row.put: one operation behind the others. | change.Right; change.maker.flush; slices.Clip. | Rows of operations that are the call's own, at any place of a block: what a reader holds. | What change.Normal makes: in plain Lean. -/
import Derived.Test.YtaemajcpgmaapaaDoorPkB
import Derived.Maps.AppendAt
import Derived.Test.YtaemajcpgmaapaaDoorPkC
import Derived.Deep.AppendLies
import Derived.Deep.RegionLaw
import Derived.StillTailTactics
import Derived.Deep.RegionHeld3
namespace Go.Proofs.YtaemajcpgmaapaaDoor
open Go.RowKit

/-- Between the two worlds only blocks of X may have changed; new ones may have come. -/
structure Chg (X : Nat → Prop) (w w' : World) : Prop where
  os : w'.os = w.os
  tape : w'.tape = w.tape
  output : w'.output = w.output
  size : w.heap.size ≤ w'.heap.size
  block : ∀ k, k < w.heap.size → ¬ X k → w'.heap[k]? = w.heap[k]?
section
variable {X Y : Nat → Prop} {w w1 w2 w' : World}
theorem Chg.refl (X : Nat → Prop) (w : World) : Chg X w w := ⟨rfl, rfl, rfl, Nat.le_refl _, fun _ _ _ => rfl⟩
theorem Chg.mono (h : Chg X w w') (hi : ∀ k, k < w.heap.size → X k → Y k) : Chg Y w w' := ⟨h.os, h.tape, h.output, h.size, fun k hk hy => h.block k hk fun hx => hy (hi k hk hx)⟩
/-- What the second may change beside X is what the first has laid. -/
theorem Chg.trans (h : Chg X w w1) (k : Chg Y w1 w2) (hi : ∀ k, k < w.heap.size → Y k → X k) : Chg X w w2 :=
  ⟨k.os.trans h.os, k.tape.trans h.tape, k.output.trans h.output, Nat.le_trans h.size k.size, fun j hj hx => (k.block j (Nat.lt_of_lt_of_le hj h.size) fun hy => hx (hi j hj hy)).trans (h.block j hj hx)⟩
theorem Chg.of_below (h : Below w.heap.size w w') (X : Nat → Prop) : Chg X w w' := ⟨h.os, h.tape, h.output, h.size, fun k hk _ => h.block k hk⟩
theorem Chg.of_grown {row : Option Nat} (h : w.grownBy w' row) (hi : ∀ k, row = some k → X k) : Chg X w w' := ⟨h.os, h.tape, h.output, h.size, fun k hk hx => h.block k hk fun e => hx (hi k e.symm)⟩
theorem Chg.below {lo : Nat} (h : Chg X w w') (hlo : lo ≤ w.heap.size) (hi : ∀ k, X k → lo ≤ k) : Below lo w w' :=
  ⟨h.os, h.tape, h.output, h.size, fun k hk => h.block k (by omega) fun hx => by have := hi k hx; omega⟩
theorem Chg.alloc (h : Chg X w w1) (o : Obj) : Chg X w (w1.alloc o) := h.trans (Chg.of_below ((Below.refl _ _).alloc (Nat.le_refl _) o) X) fun _ _ hx => hx
theorem Chg.drew (h : Chg X w w1) : Chg X w w1.drew := ⟨h.os, h.tape, h.output, h.size, h.block⟩
theorem Chg.drewN (h : Chg X w w1) (n : Nat) : Chg X w (w1.drewN n) := ⟨h.os, h.tape, h.output, h.size, h.block⟩
theorem Chg.setCell (h : Chg X w w1) {p : Addr} (u : Value) (hp : p.block < w.heap.size → X p.block) : Chg X w (w1.setCell p u) :=
  h.trans (Y := fun k => k = p.block) ⟨rfl, rfl, rfl, by simp [World.setCell], fun k _ hx => Below.heap_setCell w1 p u k hx⟩ fun k hk e => by subst e; exact hp hk
theorem Rd.chg {α : Type} {K : Kd α} {S : Nat → Prop} {v : Value} {l : List α} (h : Rd K S w v l) (hc : Chg X w w') (hs : ∀ k, S k → ¬ X k) : Rd K S w' v l := h.keep hc.size fun k hk hl => hc.block k hl (hs k hk)
theorem ownsRow_chg {lo e sz n : Nat} {v : Value} {xs : List Value} (h : w.ownsRow lo e sz v n xs) (hc : Chg X w w') (hs : ∀ k, v.ownBlock = some k → ¬ X k) : w'.ownsRow lo e sz v n xs := by
  obtain ⟨h1, h2⟩ := h
  refine ⟨h1, ?_⟩
  rcases h2 with h2 | ⟨g, cap, cur, rfl, hg, hh, r⟩
  · exact .inl h2
  · exact .inr ⟨g, cap, cur, rfl, hg, (hc.block g (Array.getElem?_eq_some_iff.1 hh).1 (hs g rfl)).trans hh, r⟩
theorem OwnA.chg {lo : Nat} {v : Value} {l : List Attr} (h : OwnA lo w v l) (hc : Chg X w w') (hs : ∀ k, v.ownBlock = some k → ¬ X k) : OwnA lo w' v l := ⟨ownsRow_chg h.1 hc hs, h.2⟩
end

def ocells (ps : List (Op × Value)) : List Value := ps.flatMap fun p => [.int .i64 p.1.kind, .int .i64 p.1.n, .string p.1.text, p.2]
theorem ocells_length (ps : List (Op × Value)) : (ocells ps).length = ps.length * 4 := by
  induction ps with
  | nil => rfl
  | cons a l ih => simp only [ocells, List.flatMap_cons, List.length_append, List.length_cons, List.length_nil] at *; omega
theorem ocells_at (ps : List (Op × Value)) (k : Nat) (hk : k < ps.length) : (ocells ps)[k * 4]? = some (.int .i64 ps[k].1.kind) ∧ (ocells ps)[k * 4 + 1]? = some (.int .i64 ps[k].1.n) ∧ (ocells ps)[k * 4 + 2]? = some (.string ps[k].1.text) ∧ (ocells ps)[k * 4 + 3]? = some ps[k].2 := by
  induction ps generalizing k with
  | nil => simp at hk
  | cons a l ih =>
    cases k with
    | zero => exact ⟨rfl, rfl, rfl, rfl⟩
    | succ k =>
      have := ih k (by simpa using hk)
      have e1 : (k + 1) * 4 = (k * 4) + 1 + 1 + 1 + 1 := by omega
      simp only [ocells, List.flatMap_cons] at this ⊢
      rw [e1]
      simpa using this
theorem ocells_append (l m : List (Op × Value)) : ocells (l ++ m) = ocells l ++ ocells m := by simp [ocells]

/-- Operations in memory that the call itself has made. -/
def OwnO (lo : Nat) (w : World) (v : Value) (l : List Op) : Prop :=
  ∃ ps : List (Op × Value), ps.map (·.1) = l ∧ w.ownsRow lo 30 4 v l.length (ocells ps) ∧ (∀ p ∈ ps, OwnA lo w p.2 p.1.attrs ∧ Fits p.1.text) ∧ l.length * 56 ≤ 140737488355328

theorem OwnO.nil (lo : Nat) (w : World) : OwnO lo w (.slice none 0 0) [] := ⟨[], rfl, ⟨by simp [ocells], .inl ⟨rfl, rfl⟩⟩, by simp, by simp⟩
/-- Two rows of elements of other types lie in other blocks. -/
theorem own_ne {w : World} {b b' e e' s s' n n' : Nat} {v v' : Value} {xs xs' : List Value} (h : w.ownsRow b e s v n xs) (h' : w.ownsRow b' e' s' v' n' xs') (hne : e ≠ e') : ∀ k, v.ownBlock = some k → v'.ownBlock ≠ some k := by
  intro k hk hk'
  rcases h.2 with ⟨rfl, _⟩ | ⟨g, cap, cur, rfl, _, hh, _⟩
  · simp [Value.ownBlock] at hk
  · rcases h'.2 with ⟨rfl, _⟩ | ⟨g', cap', cur', rfl, _, hh', _⟩
    · simp [Value.ownBlock] at hk'
    · simp [Value.ownBlock] at hk hk'
      subst hk hk'
      rw [hh] at hh'
      injection hh' with hh'
      injection hh' with _ ht
      exact hne ht
/-- A block of elements of another type is not a row's. -/
theorem own_ne_block {w : World} {b e s n g T : Nat} {v : Value} {xs : List Value} {cs : Array Value} {fr : Nat × Nat} (h : w.ownsRow b e s v n xs) (hb : w.heap[g]? = some (.cells cs T fr)) (hne : e ≠ T) : ∀ k, v.ownBlock = some k → k ≠ g := by
  intro k hk e1
  subst e1
  rcases h.2 with ⟨rfl, _⟩ | ⟨g, cap, cur, rfl, _, hh, _⟩
  · simp [Value.ownBlock] at hk
  · simp [Value.ownBlock] at hk
    subst hk
    rw [hh] at hb
    injection hb with hb
    injection hb with _ ht
    exact hne ht
theorem OwnO.lt {lo : Nat} {w : World} {v : Value} {l : List Op} (h : OwnO lo w v l) : ∀ k, v.ownBlock = some k → lo ≤ k ∧ k < w.heap.size := by
  obtain ⟨ps, _, h, _⟩ := h
  exact h.lt
theorem OwnO.chg {lo : Nat} {w w' : World} {X : Nat → Prop} {v : Value} {l : List Op} (h : OwnO lo w v l) (hc : Chg X w w') (hs : ∀ k, v.ownBlock = some k → ¬ X k) (ha : ∀ k, lo ≤ k → (∃ cs fr, w.heap[k]? = some (.cells cs 102 fr)) → ¬ X k) : OwnO lo w' v l := by
  obtain ⟨ps, e, h1, h2, h3⟩ := h
  refine ⟨ps, e, ownsRow_chg h1 hc hs, fun p hp => ⟨(h2 p hp).1.chg hc fun k hk => ?_, (h2 p hp).2⟩, h3⟩
  refine ha k ((h2 p hp).1.1.lt k hk).1 ?_
  rcases (h2 p hp).1.1.2 with ⟨e1, _⟩ | ⟨g, cap, cur, e1, _, hh, _⟩
  · rw [e1] at hk; simp [Value.ownBlock] at hk
  · rw [e1] at hk; simp [Value.ownBlock] at hk; subst hk; exact ⟨_, _, hh⟩
theorem OwnO.below {lo : Nat} {w w' : World} {v : Value} {l : List Op} (h : OwnO lo w v l) (hb : Below w.heap.size w w') : OwnO lo w' v l :=
  h.chg (X := fun _ => False) (Chg.of_below hb _) (fun _ _ h => h) (fun _ _ _ h => h)
theorem OwnO.rd {lo : Nat} {w : World} {v : Value} {l : List Op} (h : OwnO lo w v l) : Rd KO (fun k => lo ≤ k) w v l := by
  obtain ⟨ps, rfl, ⟨h1, h2⟩, hp, hl⟩ := h
  rcases h2 with ⟨rfl, h0⟩ | ⟨g, cap, cur, rfl, hg, hh, hn, hm, hs, ht⟩
  · have : ps.map (·.1) = [] := List.eq_nil_of_length_eq_zero h0
    rw [this]
    exact Rd.nil _ _ _ _ _ (by simp)
  · refine ⟨_, cap, rfl, ⟨by simp, hn⟩, hl, fun k hk => ?_⟩
    have hk' : k < ps.length := by simpa using hk
    have ha := ocells_at ps k hk'
    have hpk := hp ps[k] (List.getElem_mem hk')
    refine ⟨g, 0, _, rfl, hg, (Array.getElem?_eq_some_iff.1 hh).1, ⟨ps[k].2, rfl, by simpa using hpk.1.rd, by simpa using hpk.2⟩, fun j x hx => ?_⟩
    rw [← ht] at ha
    have hsz : cur.size = cap * 4 := hs
    have hlen : (ps.map (·.1)).length = ps.length := by simp
    show w.cell? ⟨g, 0 + k * 4 + j, none⟩ = some x
    rw [Nat.zero_add, cell_of_row w g _ cur _ (0, 0) hh, ← Array.getElem?_toList]
    match j, hx with
    | 0, hx =>
      simp at hx
      have h := ha.1
      rw [List.getElem?_take_of_lt (by omega)] at h
      rw [← hx]; exact h
    | 1, hx =>
      simp at hx
      have h := ha.2.1
      rw [List.getElem?_take_of_lt (by omega)] at h
      rw [← hx]; exact h
    | 2, hx =>
      simp at hx
      have h := ha.2.2.1
      rw [List.getElem?_take_of_lt (by omega)] at h
      rw [← hx]; exact h
    | 3, hx =>
      simp at hx
      have h := ha.2.2.2
      rw [List.getElem?_take_of_lt (by omega)] at h
      rw [← hx]; exact h
    | j + 4, hx => simp at hx

theorem infoOp : (Tryd.prog.info? 30).map (fun i => (i.zero, i.size, i.bytes)) = some (some (.agg #[.int .i64 0, .int .i64 0, .string ⟨#[]⟩, .slice none 0 0]), 4, 56) := by kernel_rfl
section
variable {ops : Array Oper} {rest : List Oper} {o : Oper} {a : Act} {Q : Exit → Act → World → Prop} {w : World}
/-- append of one operation, behind such as are the call's own. -/
theorem wpList_append_op1 (hgd : o.guard = none) (s x : Operand) (ho : o.op = .call { callee := .builtin .append, args := #[s, x], argTypes := #[22, 22] })
    (lo : Nat) (v : Value) (l : List Op) (p : Op) (va : Value) (B : Nat) (hs : a.eval s = v) (hx : a.eval x = .slice (some ⟨B, 0, none⟩) 1 1) (hB : B = w.heap.size) (hown : OwnO lo w v l) (hva : OwnA lo w va p.attrs) (hft : Fits p.text) (h1 : va.oneCell' = true)
    (hb : (l.length + 1) * 56 ≤ 140737488355328) (hbase : lo ≤ w.heap.size)
    (h : ∀ v' w', OwnO lo w' v' (l ++ [p]) → w.grownBy w' v.ownBlock → (v'.ownBlock = v.ownBlock ∨ ∃ b, v'.ownBlock = some b ∧ w.heap.size ≤ b) → wpList Tryd.prog ops Q rest (a.put o.dst v') w') :
    wpList Tryd.prog ops Q (o :: rest) a (w.alloc (.cells #[.int .i64 p.kind, .int .i64 p.n, .string p.text, va] 30)) := by
  obtain ⟨i, hi, hz0, hz1, hz2⟩ := info_parts infoOp
  obtain ⟨ps, rfl, hrow, hps, hl⟩ := hown
  subst hB
  have hbA : Below w.heap.size w (w.alloc (.cells #[.int .i64 p.kind, .int .i64 p.n, .string p.text, va] 30)) := (Below.refl _ _).alloc (Nat.le_refl _) _
  have hone : ∀ u ∈ [Value.int .i64 p.kind, .int .i64 p.n, .string p.text, va], u.oneCell' = true := by
    intro u hu
    simp only [List.mem_cons, List.not_mem_nil, or_false] at hu
    rcases hu with rfl | rfl | rfl | rfl
    · rfl
    · rfl
    · rfl
    · exact h1
  refine wpList_append_own_at _ hgd s x _ ho lo _ i _ 4 56 Tryd.underlying22 hi hz0 hz1 hz2 rfl (by decide) v _ _ hs (hrow.alloc _) ⟨w.heap.size, 0, none⟩ 1 1 [.int .i64 p.kind, .int .i64 p.n, .string p.text, va] hx rfl
    (World.news_of_block (cs := #[.int .i64 p.kind, .int .i64 p.n, .string p.text, va]) (t := 30) (fr := (0, 0)) (heap_alloc_new w _)) hone (by unfold maxLen; omega) hb (by simp; omega) ?_
  intro v' w' h2 h3 _ hat
  have hg : w.grownBy w' v.ownBlock := World.grownBy.trans (World.grownBy_alloc w _ _) h3
  refine h v' w' ⟨ps ++ [(p, va)], by simp, ?_, fun q hq => ?_, by simpa using hb⟩ hg ?_
  · have e : ocells (ps ++ [(p, va)]) = ocells ps ++ [.int .i64 p.kind, .int .i64 p.n, .string p.text, va] := by simp [ocells]
    rw [e]
    simpa using h2
  · have hc : Chg (fun k => v.ownBlock = some k) w w' := Chg.of_grown hg fun k hk => hk
    rcases List.mem_append.1 hq with hq | hq
    · exact ⟨(hps q hq).1.chg hc fun k hk e => own_ne (hps q hq).1.1 hrow (by decide) k hk e, (hps q hq).2⟩
    · simp at hq
      subst hq
      exact ⟨hva.chg hc fun k hk e => own_ne hva.1 hrow (by decide) k hk e, hft⟩
  · rcases hat with hat | hat
    · exact .inl hat
    · exact .inr ⟨_, hat, by simp⟩
end
end Go.Proofs.YtaemajcpgmaapaaDoor

namespace Go.Proofs.YtaemajcpgmaapaaDoor
open Go.RowKit

section
variable {ops : Array Oper} {o : Oper} {a : Act} {K : Act → World → Prop} {Q : Exit → Act → World → Prop} {E : Prop} {w : World}
/-- append of one operation, at a step of a region that draws its order. -/
theorem step_append_op1 (hgd : o.guard = none) (s x : Operand) (ho : o.op = .call { callee := .builtin .append, args := #[s, x], argTypes := #[22, 22] })
    (lo : Nat) (v : Value) (l : List Op) (m : Nat) (hm : l.length = m) (p : Op) (va : Value) (B : Nat) (hs : a.eval s = v) (hx : a.eval x = .slice (some ⟨B, 0, none⟩) 1 1) (hB : B = w.heap.size) (hown : OwnO lo w v l) (hva : OwnA lo w va p.attrs) (hft : Fits p.text) (h1 : va.oneCell' = true)
    (hb : (m + 1) * 56 ≤ 140737488355328) (hbase : lo ≤ w.heap.size)
    (h : ∀ g cap w', OwnO lo w' (.slice (some ⟨g, 0, none⟩) (m + 1) cap) (l ++ [p]) → w.grownBy w' v.ownBlock → (v.ownBlock = some g ∨ w.heap.size ≤ g) → K (a.put o.dst (.slice (some ⟨g, 0, none⟩) (m + 1) cap)) w') :
    if Region.wanted o (yielded ops a.tmps) = true then Oper.wp Tryd.prog o a (w.alloc (.cells #[.int .i64 p.kind, .int .i64 p.n, .string p.text, va] 30)) K Q else E := by
  subst hm
  obtain ⟨i, hi, hz0, hz1, hz2⟩ := info_parts infoOp
  obtain ⟨ps, rfl, hrow, hps, hl⟩ := hown
  subst hB
  have hone : ∀ u ∈ [Value.int .i64 p.kind, .int .i64 p.n, .string p.text, va], u.oneCell' = true := by
    intro u hu
    simp only [List.mem_cons, List.not_mem_nil, or_false] at hu
    rcases hu with rfl | rfl | rfl | rfl
    · rfl
    · rfl
    · rfl
    · exact h1
  refine step_append_lies _ hgd s x _ ho lo _ i _ 4 56 Tryd.underlying22 hi hz0 hz1 hz2 rfl (by decide) v _ _ hs (hrow.alloc _) ⟨w.heap.size, 0, none⟩ 1 1 [.int .i64 p.kind, .int .i64 p.n, .string p.text, va] hx rfl
    (World.news_of_block (cs := #[.int .i64 p.kind, .int .i64 p.n, .string p.text, va]) (t := 30) (fr := (0, 0)) (heap_alloc_new w _)) hone (by omega) (by unfold maxLen; omega) hb (by simp; omega) _ rfl ?_
  intro g cap w' h2 h3 hat _
  have hg : w.grownBy w' v.ownBlock := World.grownBy.trans (World.grownBy_alloc w _ _) h3
  refine h g cap w' ⟨ps ++ [(p, va)], by simp, ?_, fun q hq => ?_, by simpa using hb⟩ hg ?_
  · have e : ocells (ps ++ [(p, va)]) = ocells ps ++ [.int .i64 p.kind, .int .i64 p.n, .string p.text, va] := by simp [ocells]
    rw [e]
    simpa using h2
  · have hc : Chg (fun k => v.ownBlock = some k) w w' := Chg.of_grown hg fun k hk => hk
    rcases List.mem_append.1 hq with hq | hq
    · exact ⟨(hps q hq).1.chg hc fun k hk e => own_ne (hps q hq).1.1 hrow (by decide) k hk e, (hps q hq).2⟩
    · simp at hq
      subst hq
      exact ⟨hva.chg hc fun k hk e => own_ne hva.1 hrow (by decide) k hk e, hft⟩
  · rcases hat with hat | hat
    · exact .inl hat
    · exact .inr (by simp at hat; omega)
end

theorem own_ne_blockO {lo : Nat} {w : World} {v : Value} {l : List Op} {g T : Nat} {cs : Array Value} {fr : Nat × Nat} (h : OwnO lo w v l) (hb : w.heap[g]? = some (.cells cs T fr)) (hne : T ≠ 30) : ∀ k, v.ownBlock = some k → k ≠ g := by
  obtain ⟨ps, _, h, _⟩ := h
  exact own_ne_block h hb (Ne.symm hne)

def opLike (a b : Op) : Bool := (a.kind == b.kind) && attrsEq a.attrs b.attrs
/-- o behind the others, as one with the last, if they are alike. -/
def putL (l : List Op) (o : Op) : List Op := match l.getLast? with
  | none => [o]
  | some x => if opLike x o then l.dropLast ++ [⟨x.kind, wrap64 (x.n + o.n), x.text ++ o.text, x.attrs⟩] else l ++ [o]

/-- The last operation of an owned row, in memory. -/
theorem OwnO.last {lo : Nat} {w : World} {g cap : Nat} {l : List Op} {x : Op} (h : OwnO lo w (.slice (some ⟨g, 0, none⟩) (l.length + 1) cap) (l ++ [x])) :
    ∃ vx, OwnA lo w vx x.attrs ∧ Fits x.text ∧ w.cell? ⟨g, l.length * 4, none⟩ = some (.int .i64 x.kind) ∧ w.cell? ⟨g, l.length * 4 + 1, none⟩ = some (.int .i64 x.n) ∧
      w.cell? ⟨g, l.length * 4 + 2, none⟩ = some (.string x.text) ∧ w.cell? ⟨g, l.length * 4 + 3, none⟩ = some vx ∧ (∀ j, w.frozen? ⟨g, j, none⟩ = false) := by
  obtain ⟨ps, hps, h1, h2, h3⟩ := h
  have hl : ps.length = l.length + 1 := by have := congrArg List.length hps; simpa using this
  have hk : l.length < ps.length := by omega
  have hx : ps[l.length].1 = x := by
    have : (ps.map (·.1))[l.length]? = some x := by rw [hps]; simp
    simpa [hk] using this
  have hp := h2 ps[l.length] (List.getElem_mem hk)
  have ha := ocells_at ps l.length hk
  rw [hx] at hp ha
  have e1 : (l ++ [x]).length = l.length + 1 := by simp
  rw [e1] at h1
  exact ⟨_, hp.1, hp.2, (h1.cellAt _ (by omega)).trans ha.1, (h1.cellAt _ (by omega)).trans ha.2.1, (h1.cellAt _ (by omega)).trans ha.2.2.1, (h1.cellAt _ (by omega)).trans ha.2.2.2, h1.frozenAt⟩
theorem ocells_set (l : List (Op × Value)) (p q : Op × Value) (j : Nat) (u : Value) (h : ([.int .i64 p.1.kind, .int .i64 p.1.n, .string p.1.text, p.2] : List Value).set j u = [.int .i64 q.1.kind, .int .i64 q.1.n, .string q.1.text, q.2]) :
    (ocells (l ++ [p])).set (l.length * 4 + j) u = ocells (l ++ [q]) := by
  rw [ocells_append, ocells_append, List.set_append_right _ _ (by rw [ocells_length]; omega), ocells_length]
  simp only [ocells, List.flatMap_cons, List.flatMap_nil, List.append_nil]
  rw [show l.length * 4 + j - l.length * 4 = j by omega, h]
/-- The last operation, turned in its number or its text. -/
theorem OwnO.setLast {lo : Nat} {w : World} {g cap : Nat} {l : List Op} {x y : Op} (h : OwnO lo w (.slice (some ⟨g, 0, none⟩) (l.length + 1) cap) (l ++ [x])) (j : Nat) (u : Value) (hy : y.attrs = x.attrs) (hf : Fits y.text)
    (hj : ∀ v : Value, ([.int .i64 x.kind, .int .i64 x.n, .string x.text, v] : List Value).set j u = [.int .i64 y.kind, .int .i64 y.n, .string y.text, v]) :
    OwnO lo (w.setCell ⟨g, l.length * 4 + j, none⟩ u) (.slice (some ⟨g, 0, none⟩) (l.length + 1) cap) (l ++ [y]) := by
  obtain ⟨ps, hps, h1, h2, h3⟩ := h
  rcases List.eq_nil_or_concat ps with rfl | ⟨p0, p, rfl⟩
  · simp at hps
  rw [List.concat_eq_append] at *
  rw [List.map_append] at hps
  have hinj := List.append_inj' hps (by simp)
  have hl : p0.length = l.length := by rw [← hinj.1]; simp
  have hpx : p.1 = x := by simpa using hinj.2
  have e1 : (l ++ [x]).length = l.length + 1 := by simp
  have e2 : (l ++ [y]).length = l.length + 1 := by simp
  rw [e1] at h1 h3
  have hst := h1.stored (l.length * 4 + j) u
  have hc : Chg (fun k => k = g) w (w.setCell ⟨g, l.length * 4 + j, none⟩ u) := (Chg.refl _ _).setCell _ fun _ => rfl
  have hkeep : ∀ v la, OwnA lo w v la → OwnA lo (w.setCell ⟨g, l.length * 4 + j, none⟩ u) v la := fun v la h => h.chg hc fun k hk e => own_ne h1 h.1 (by decide) g rfl (by rw [← e]; exact hk)
  refine ⟨p0 ++ [(y, p.2)], by rw [List.map_append, hinj.1]; rfl, ?_, fun q hq => ?_, by rw [e2]; exact h3⟩
  · rw [e2, ← ocells_set p0 p (y, p.2) j u (by rw [hpx]; exact hj p.2), hl]
    exact hst.1
  · rcases List.mem_append.1 hq with hq | hq
    · exact ⟨hkeep _ _ (h2 q (List.mem_append_left _ hq)).1, (h2 q (List.mem_append_left _ hq)).2⟩
    · simp at hq
      subst hq
      have := (h2 p (by simp)).1
      rw [hpx] at this
      exact ⟨hkeep _ _ (by rw [hy]; exact this), hf⟩

theorem put_end {w W2 w3 : World} {rb T lo g cap m : Nat} {cs : Array Value} {v : Value} {l l2 : List Op} (_ : w.heap[rb]? = some (.cells cs T (0, 0))) (_ : cs[0]? = some v) (hT1 : T ≠ 30) (hT2 : T ≠ 102)
    (hcg : Chg (fun k => k = w.heap.size) w W2) (hgrow : W2.drew.grownBy w3 v.ownBlock) (hrb3 : w3.heap[rb]? = some (.cells cs T (0, 0)))
    (hown3 : OwnO lo w3 (.slice (some ⟨g, 0, none⟩) m cap) l) (hat : v.ownBlock = some g ∨ W2.heap.size ≤ g) (hz : w.heap.size ≤ W2.heap.size) (hl : l2 = l) :
    ∃ v', (w3.setCell ⟨rb, 0, none⟩ (.slice (some ⟨g, 0, none⟩) m cap)).heap[rb]? = some (.cells (cs.setIfInBounds 0 v') T (0, 0)) ∧ OwnO lo (w3.setCell ⟨rb, 0, none⟩ (.slice (some ⟨g, 0, none⟩) m cap)) v' l2 ∧
      Chg (fun k => k = rb ∨ v.ownBlock = some k) w (w3.setCell ⟨rb, 0, none⟩ (.slice (some ⟨g, 0, none⟩) m cap)) ∧ (v'.ownBlock = v.ownBlock ∨ ∃ k, v'.ownBlock = some k ∧ w.heap.size ≤ k) := by
  subst hl
  have hc3 : Chg (fun k => k = rb) w3 (w3.setCell ⟨rb, 0, none⟩ (.slice (some ⟨g, 0, none⟩) m cap)) := (Chg.refl _ _).setCell _ fun _ => rfl
  refine ⟨.slice (some ⟨g, 0, none⟩) m cap, heap_setCell_same w3 rb 0 cs T _ hrb3, hown3.chg hc3 (fun k hk e => own_ne_blockO hown3 hrb3 hT1 k hk e) (fun k _ hk e => ?_), ?_, ?_⟩
  · obtain ⟨cs', fr, hk⟩ := hk
    subst e
    rw [hrb3] at hk
    injection hk with hk
    injection hk with _ ht
    exact hT2 ht
  · refine Chg.trans (X := fun k => k = rb ∨ v.ownBlock = some k) (Chg.trans (X := fun k => k = rb ∨ v.ownBlock = some k) (hcg.mono fun k hk e => absurd e (by omega)).drew (Chg.of_grown (X := fun k => v.ownBlock = some k) hgrow fun k hk => hk) fun k _ e => .inr e) hc3 fun k _ e => .inl e
  · rcases hat with hat | hat
    · exact .inl hat.symm
    · exact .inr ⟨g, rfl, by omega⟩

theorem put_join {w W1 : World} {rb T lo g c : Nat} {cs : Array Value} {l : List Op} {x : Op} {n : Int} {text : ByteArray} {u : Nat} {l2 : List Op} {la : List Attr} (hrb : w.heap[rb]? = some (.cells cs T (0, 0))) (hcs : cs[0]? = some (.slice (some ⟨g, 0, none⟩) (l.length + 1) c)) (hT1 : T ≠ 30)
    (hown : OwnO lo w (.slice (some ⟨g, 0, none⟩) (l.length + 1) c) (l ++ [x])) (hb0 : Below w.heap.size w W1) (hf : x.text.size + text.size ≤ 140737488355328) (hat : attrsEq x.attrs la = true) (hl2 : l2 = putL (l ++ [x]) ⟨x.kind, n, text, la⟩) (hu : u = l.length * 4) :
    ∃ v', ((W1.setCell ⟨g, u + 1, none⟩ (.int .i64 (wrap64 (x.n + n)))).setCell ⟨g, u + 2, none⟩ (.string (x.text ++ text))).drew.drew.heap[rb]? = some (.cells (cs.setIfInBounds 0 v') T (0, 0)) ∧
      OwnO lo ((W1.setCell ⟨g, u + 1, none⟩ (.int .i64 (wrap64 (x.n + n)))).setCell ⟨g, u + 2, none⟩ (.string (x.text ++ text))).drew.drew v' l2 ∧
      Chg (fun k => k = rb ∨ (Value.slice (some ⟨g, 0, none⟩) (l.length + 1) c).ownBlock = some k) w ((W1.setCell ⟨g, u + 1, none⟩ (.int .i64 (wrap64 (x.n + n)))).setCell ⟨g, u + 2, none⟩ (.string (x.text ++ text))).drew.drew ∧
      (v'.ownBlock = (Value.slice (some ⟨g, 0, none⟩) (l.length + 1) c).ownBlock ∨ ∃ k, v'.ownBlock = some k ∧ w.heap.size ≤ k) := by
  subst hl2 hu
  have hrbw : rb < w.heap.size := (Array.getElem?_eq_some_iff.1 hrb).1
  have ne1 : g ≠ rb := own_ne_blockO hown hrb hT1 g rfl
  have hc : Chg (fun k => k = g) w ((W1.setCell ⟨g, l.length * 4 + 1, none⟩ (.int .i64 (wrap64 (x.n + n)))).setCell ⟨g, l.length * 4 + 2, none⟩ (.string (x.text ++ text))) :=
    ((Chg.of_below hb0 (fun k => k = g)).setCell (p := ⟨g, l.length * 4 + 1, none⟩) _ fun _ => rfl).setCell (p := ⟨g, l.length * 4 + 2, none⟩) _ fun _ => rfl
  refine ⟨.slice (some ⟨g, 0, none⟩) (l.length + 1) c, ?_, ?_, hc.mono (Y := fun k => k = rb ∨ (Value.slice (some ⟨g, 0, none⟩) (l.length + 1) c).ownBlock = some k) (fun k _ e => .inr (by rw [e]; rfl)) |>.drew.drew, .inl rfl⟩
  · refine (hc.block rb hrbw (Ne.symm ne1)).trans ?_
    rw [hrb]
    have : cs.setIfInBounds 0 (.slice (some ⟨g, 0, none⟩) (l.length + 1) c) = cs := by
      obtain ⟨h0, h1⟩ := Array.getElem?_eq_some_iff.1 hcs
      refine Array.ext (by simp) fun i hi1 hi2 => ?_
      rw [Array.getElem_setIfInBounds]
      split
      · next e => subst e; exact h1.symm
      · rfl
    rw [this]
  · have hp : putL (l ++ [x]) ⟨x.kind, n, text, la⟩ = l ++ [⟨x.kind, wrap64 (x.n + n), x.text ++ text, x.attrs⟩] := by simp [putL, opLike, hat]
    rw [hp]
    have hfx : Fits x.text := by unfold Fits; omega
    have h1 := (hown.below hb0).setLast (y := ⟨x.kind, wrap64 (x.n + n), x.text, x.attrs⟩) 1 (.int .i64 (wrap64 (x.n + n))) rfl hfx (fun _ => rfl)
    have h2 := h1.setLast (y := ⟨x.kind, wrap64 (x.n + n), x.text ++ text, x.attrs⟩) 2 (.string (x.text ++ text)) rfl (by unfold Fits; simp [ByteArray.size_append]; omega) (fun _ => rfl)
    exact h2.below (Below.refl _ _).drew.drew

set_option maxRecDepth 100000 in
set_option maxHeartbeats 4000000 in
theorem rowPut (rb : Nat) (cs : Array Value) (T : Nat) (v : Value) (l : List Op) (lo : Nat) (kind n : Int) (text : ByteArray) (va : Value) (la : List Attr) (S : Nat → Prop) (w : World)
    (hrb : w.heap[rb]? = some (.cells cs T (0, 0))) (hcs : cs[0]? = some v) (hlo : lo ≤ rb) (hT1 : T ≠ 30) (hT2 : T ≠ 102) (hown : OwnO lo w v l) (hva : Rd KA S w va la) (hft : Fits text)
    (hsz : ∀ x ∈ l, x.text.size + text.size ≤ 140737488355328) (hlen : (l.length + 1) * 56 ≤ 140737488355328) :
    Calls Tryd.prog 94 #[.pointer (some ⟨rb, 0, none⟩), .agg #[.int .i64 kind, .int .i64 n, .string text, va]] w fun e w' => e = .returned (.tuple #[]) ∧
      ∃ v', w'.heap[rb]? = some (.cells (cs.setIfInBounds 0 v') T (0, 0)) ∧ OwnO lo w' v' (putL l ⟨kind, n, text, la⟩) ∧ Chg (fun k => k = rb ∨ v.ownBlock = some k) w w' ∧ (v'.ownBlock = v.ownBlock ∨ ∃ k, v'.ownBlock = some k ∧ w.heap.size ≤ k) := by
  have hrbw : rb < w.heap.size := (Array.getElem?_eq_some_iff.1 hrb).1
  have hc0 : w.cell? ⟨rb, 0, none⟩ = some v := by rw [cell_of_row w rb 0 cs T (0, 0) hrb]; exact hcs
  have hfz : w.frozen? ⟨rb, 0, none⟩ = false := by simp [World.frozen?, hrb]
  obtain ⟨A, c, rfl, hAc, hr⟩ := hown.rd
  rcases List.eq_nil_or_concat l with rfl | ⟨l0, x, rfl⟩
  · obtain ⟨A2, c2, rfl, hA2, hr2⟩ := hva
    simp only [List.length_nil] at *
    go_enter Tryd.func94, Tryd.ntmps94
    go_wp2_with fail
    go_quiet (fail)
    go_wp2_with fail
    have c1 := clone_any (.slice A2 la.length c2) la S
    have hb0 : Below w.heap.size w ((w.alloc (.cells #[.int .i64 kind, .int .i64 n, .string text, .slice A2 la.length c2] 30)).drewN nq) := below_drewN ((Below.refl _ _).alloc (Nat.le_refl _) _) _
    refine (c1 _ (Rd.below ⟨A2, c2, rfl, hA2, hr2⟩ hb0)).mono ?_
    rintro e w1 ⟨v3, rfl, hb1, ho1⟩
    have hq1 := (bcell hb1).1
    have hq2 := (bcell hb1).2
    have hb1' : Below w.heap.size w w1 := hb0.trans (hb1.mono hb0.size)
    have hz1 : w.heap.size < w1.heap.size := by have := hb1.size; simp at this; omega
    obtain ⟨A3, c3, rfl, hA3, hr3⟩ := ho1.rd
    have hc1 := (hb1'.cell (p := ⟨rb, 0, none⟩) hrbw).trans hc0
    have hfz1 := (hb1'.frozen (p := ⟨rb, 0, none⟩) hrbw).trans hfz
    go_wp2_with fail
    have hcg : Chg (fun k => k = w.heap.size) w (w1.setCell ⟨w.heap.size, 3, none⟩ (.slice A3 la.length c3)) := (Chg.of_below hb1' _).setCell _ fun _ => rfl
    have ho2 : OwnO lo (w1.setCell ⟨w.heap.size, 3, none⟩ (.slice A3 la.length c3)) _ _ := hown.chg hcg (fun k hk e => by have := (hown.lt k hk).2; omega) (fun k _ hk e => by obtain ⟨_, _, hk⟩ := hk; have := (Array.getElem?_eq_some_iff.1 hk).1; omega)
    have hoa2 : OwnA lo (w1.setCell ⟨w.heap.size, 3, none⟩ (.slice A3 la.length c3)) (.slice A3 la.length c3) la := (ho1.mono (by simp; omega)).chg (X := fun k => k = w.heap.size) ((Chg.refl _ w1).setCell _ fun _ => rfl) (fun k hk e => by have := (ho1.1.lt k hk).1; simp at this; omega)
    have hk0 : (w1.setCell ⟨w.heap.size, 3, none⟩ (.slice A3 la.length c3)).cell? ⟨w.heap.size, 0, none⟩ = some (.int .i64 kind) := (World.cell?_setCell_other _ _ _ _ (by simp)).trans ((hq1 w.heap.size 0 (by simp)).trans (cell_of_row _ w.heap.size 0 _ _ _ (heap_alloc_new w _)))
    have hk1 : (w1.setCell ⟨w.heap.size, 3, none⟩ (.slice A3 la.length c3)).cell? ⟨w.heap.size, 1, none⟩ = some (.int .i64 n) := (World.cell?_setCell_other _ _ _ _ (by simp)).trans ((hq1 w.heap.size 1 (by simp)).trans (cell_of_row _ w.heap.size 1 _ _ _ (heap_alloc_new w _)))
    have hk2 : (w1.setCell ⟨w.heap.size, 3, none⟩ (.slice A3 la.length c3)).cell? ⟨w.heap.size, 2, none⟩ = some (.string text) := (World.cell?_setCell_other _ _ _ _ (by simp)).trans ((hq1 w.heap.size 2 (by simp)).trans (cell_of_row _ w.heap.size 2 _ _ _ (heap_alloc_new w _)))
    have hk3 : (w1.setCell ⟨w.heap.size, 3, none⟩ (.slice A3 la.length c3)).cell? ⟨w.heap.size, 3, none⟩ = some (.slice A3 la.length c3) := World.cell?_setCell_same w1 _ _ ((hq1 w.heap.size 3 (by simp)).trans (cell_of_row _ w.heap.size 3 _ _ _ (heap_alloc_new w _)))
    have hrb2 : (w1.setCell ⟨w.heap.size, 3, none⟩ (.slice A3 la.length c3)).heap[rb]? = some (.cells cs T (0, 0)) := (hcg.block rb hrbw (by omega)).trans hrb
    have hz2 := hcg.size
    have hz3 : w.heap.size < (w1.setCell ⟨w.heap.size, 3, none⟩ (.slice A3 la.length c3)).heap.size := by simp [World.setCell]; omega
    generalize w1.setCell ⟨w.heap.size, 3, none⟩ (.slice A3 la.length c3) = W2 at *
    have hr2 : W2.cell? ⟨rb, 0, none⟩ = some (.slice A 0 c) := by rw [cell_of_row W2 rb 0 cs T (0, 0) hrb2]; exact hcs
    have hf2 : W2.frozen? ⟨rb, 0, none⟩ = false := by simp [World.frozen?, hrb2]
    have q1 : Hid (OwnO lo W2.drew (.slice A 0 c) []) := OwnO.below ho2 (Below.refl _ _).drew
    have q2 : Hid (OwnA lo W2.drew (.slice A3 la.length c3) la) := OwnA.below hoa2 (Below.refl _ _).drew
    have q3 : lo ≤ W2.heap.size := by omega
    have q5 : Hid (putL [] ⟨kind, n, text, la⟩ = [⟨kind, n, text, la⟩]) := rfl
    have q4 : Hid (∀ k, (Value.slice A 0 c).ownBlock = some k → k ≠ rb) := own_ne_blockO ho2 hrb2 hT1
    have hr2a : ∀ o, (W2.alloc o).cell? ⟨rb, 0, none⟩ = some (.slice A 0 c) := fun o => (World.cell?_of_block (Below.heap_alloc W2 o rb (by omega))).trans hr2
    go_region_law ((
      refine step_append_op1 (by rfl) (.tmp 76) (.tmp 78) (by rfl) lo (.slice A 0 c) [] 0 rfl ⟨kind, n, text, la⟩ (.slice A3 la.length c3) W2.heap.size (by simp [Act.eval]) (by simp [Act.eval]) (by simp) q1.out q2.out hft (by rfl) (by decide) (by simpa using q3) ?_
      intro g cap w3 hown3 hgrow hat
      have hrb3 := (hgrow.block rb (by simp; omega) (fun e => q4.out rb e.symm rfl)).trans hrb2
      have hr3 : w3.cell? ⟨rb, 0, none⟩ = some (.slice A 0 c) := (hgrow.cell_far ⟨rb, 0, none⟩ (by simp; omega) (fun e => q4.out rb e.symm rfl)).trans hr2
      have hf3 : w3.frozen? ⟨rb, 0, none⟩ = false := (hgrow.frozen_far ⟨rb, 0, none⟩ (by simp; omega) (fun e => q4.out rb e.symm rfl)).trans hf2))
    all_goals
      go_wp2
      refine bodyPost_end (results_none rfl _ _ _) rfl ⟨rfl, ?_⟩
      exact put_end hrb hcs hT1 hT2 hcg hgrow hrb3 hown3 hat hz2 q5.out
  · rw [List.concat_eq_append] at *
    obtain ⟨A2, c2, rfl, hA2, hr2⟩ := hva
    have e1 : (l0 ++ [x]).length = l0.length + 1 := by simp
    have hx := hsz x (by simp)
    rw [e1] at hcs hown hc0 hlen hAc ⊢
    obtain ⟨g0, rfl⟩ : ∃ g0, A = some ⟨g0, 0, none⟩ := by
      obtain ⟨ps, hps, h1, _, _⟩ := hown
      rcases h1.2 with ⟨h', _⟩ | ⟨g', cap', cur, h', _⟩
      · simp at h'
      · simp at h'
        exact ⟨g', by rw [h'.1]⟩
    obtain ⟨vx, hox, hfx, hx0, hx1, hx2, hx3, hxf⟩ := hown.last
    have hxf0 := hxf
    obtain ⟨A4, c4, rfl, hA4, hr4⟩ := hox.rd
    have hg0w : g0 < w.heap.size := (hown.lt g0 rfl).2
    have hwr : IntKind.i64.wrap ((l0.length + 1 : Nat) - 1 : Int) = l0.length := by have := hlen; rw [show ((l0.length + 1 : Nat) - 1 : Int) = (l0.length : Int) by omega, IntKind.wrap_i64]; omega
    have hwr2 : IntKind.i64.wrap ((l0.length : Int) + 1 - 1) = l0.length := by have := hlen; rw [show ((l0.length : Int) + 1 - 1) = (l0.length : Int) by omega, IntKind.wrap_i64]; omega
    have hlt1 : (l0.length : Int) < (l0.length + 1 : Nat) := by omega
    have hlt2 : (l0.length : Int) < (l0.length : Int) + 1 := by omega
    have hlt3 : (0 : Int) ≤ (l0.length : Int) := by omega
    have hgt : decide ((0 : Int) < (l0.length + 1 : Nat)) = true := by simp
    have cq := same_q (.slice A4 x.attrs.length c4) (.slice A2 la.length c2) x.attrs la (fun k => lo ≤ k) S
    by_cases hkd : x.kind = kind
    · cases hat : attrsEq x.attrs la with
      | true =>
        rw [hat] at cq
        subst hkd
        have hke : (x.kind == x.kind) = true := by simp
        go_enter Tryd.func94, Tryd.ntmps94
        go_wp2_with fail
        go_quiet (first | (go_at_call 98; refine Calls.quiet_of (cq _ ?_ ?_); exact Rd.below ⟨A4, c4, rfl, hA4, hr4⟩ (below_drewN ((Below.refl _ _).alloc (Nat.le_refl _) _) _); exact Rd.below ⟨A2, c2, rfl, hA2, hr2⟩ (below_drewN ((Below.refl _ _).alloc (Nat.le_refl _) _) _)))
        have hb0 : Below w.heap.size w ((w.alloc (.cells #[.int .i64 x.kind, .int .i64 n, .string text, .slice A2 la.length c2] 30)).drewN nq) := below_drewN ((Below.refl _ _).alloc (Nat.le_refl _) _) _
        have p1 := (hb0.cell (p := ⟨rb, 0, none⟩) hrbw).trans hc0
        have p2 := (hb0.frozen (p := ⟨rb, 0, none⟩) hrbw).trans hfz
        have p3 := (hb0.cell (p := ⟨g0, l0.length * 4 + 1, none⟩) hg0w).trans hx1
        have p4 := (hb0.cell (p := ⟨g0, l0.length * 4 + 2, none⟩) hg0w).trans hx2
        have p5 := (hb0.frozen (p := ⟨g0, l0.length * 4 + 1, none⟩) hg0w).trans (hxf _)
        have p6 := (hb0.frozen (p := ⟨g0, l0.length * 4 + 2, none⟩) hg0w).trans (hxf _)
        have p7 : ((w.alloc (.cells #[.int .i64 x.kind, .int .i64 n, .string text, .slice A2 la.length c2] 30)).drewN nq).cell? ⟨w.heap.size, 1, none⟩ = some (.int .i64 n) := cell_of_row _ w.heap.size 1 _ _ _ (heap_alloc_new w _)
        have p8 : ((w.alloc (.cells #[.int .i64 x.kind, .int .i64 n, .string text, .slice A2 la.length c2] 30)).drewN nq).cell? ⟨w.heap.size, 2, none⟩ = some (.string text) := cell_of_row _ w.heap.size 2 _ _ _ (heap_alloc_new w _)
        have ne1 : g0 ≠ rb := own_ne_blockO hown hrb hT1 g0 rfl
        have ne2 : g0 ≠ w.heap.size := by omega
        have ne3 : rb ≠ w.heap.size := by omega
        generalize ((w.alloc (.cells #[.int .i64 x.kind, .int .i64 n, .string text, .slice A2 la.length c2] 30)).drewN nq) = W1 at *
        go_wp2_with fail
        go_region
        have p9 : (W1.setCell ⟨g0, l0.length * 4 + 1, none⟩ (.int .i64 (wrap64 (x.n + n)))).cell? ⟨rb, 0, none⟩ = some (.slice (some ⟨g0, 0, none⟩) (l0.length + 1) c) := (World.cell?_setCell_other _ _ _ _ (by simp)).trans p1
        have p10 : (W1.setCell ⟨g0, l0.length * 4 + 1, none⟩ (.int .i64 (wrap64 (x.n + n)))).cell? ⟨g0, l0.length * 4 + 2, none⟩ = some (.string x.text) := (World.cell?_setCell_other _ _ _ _ (by simp)).trans p4
        have p11 : (W1.setCell ⟨g0, l0.length * 4 + 1, none⟩ (.int .i64 (wrap64 (x.n + n)))).cell? ⟨w.heap.size, 2, none⟩ = some (.string text) := (World.cell?_setCell_other _ _ _ _ (by simp)).trans p8
        have p12 : (W1.setCell ⟨g0, l0.length * 4 + 1, none⟩ (.int .i64 (wrap64 (x.n + n)))).frozen? ⟨g0, l0.length * 4 + 2, none⟩ = false := by simp [p6]
        go_wp2_with fail
        go_region
        go_wp2_with fail
        refine bodyPost_ret (results_none rfl _ _ _) rfl ⟨rfl, ?_⟩
        exact put_join hrb hcs hT1 hown hb0 hx hat rfl rfl
      | false =>
        rw [hat] at cq
        have hno : (x.kind == kind && attrsEq x.attrs la) = false := by simp [hat]
        have hke : (x.kind == kind) = true := by simp [hkd]
        go_enter Tryd.func94, Tryd.ntmps94
        go_wp2_with fail
        go_quiet (first | (go_at_call 98; refine Calls.quiet_of (cq _ ?_ ?_); exact Rd.below ⟨A4, c4, rfl, hA4, hr4⟩ (below_drewN ((Below.refl _ _).alloc (Nat.le_refl _) _) _); exact Rd.below ⟨A2, c2, rfl, hA2, hr2⟩ (below_drewN ((Below.refl _ _).alloc (Nat.le_refl _) _) _)))
        go_wp2_with fail
        have c1 := clone_any (.slice A2 la.length c2) la S
        have hb0 : Below w.heap.size w ((w.alloc (.cells #[.int .i64 kind, .int .i64 n, .string text, .slice A2 la.length c2] 30)).drewN nq) := below_drewN ((Below.refl _ _).alloc (Nat.le_refl _) _) _
        refine (c1 _ (Rd.below ⟨A2, c2, rfl, hA2, hr2⟩ hb0)).mono ?_
        rintro e w1 ⟨v3, rfl, hb1, ho1⟩
        have hq1 := (bcell hb1).1
        have hq2 := (bcell hb1).2
        have hb1' : Below w.heap.size w w1 := hb0.trans (hb1.mono hb0.size)
        have hz1 : w.heap.size < w1.heap.size := by have := hb1.size; simp at this; omega
        obtain ⟨A3, c3, rfl, hA3, hr3⟩ := ho1.rd
        have hc1 := (hb1'.cell (p := ⟨rb, 0, none⟩) hrbw).trans hc0
        have hfz1 := (hb1'.frozen (p := ⟨rb, 0, none⟩) hrbw).trans hfz
        go_wp2_with fail
        have hcg : Chg (fun k => k = w.heap.size) w (w1.setCell ⟨w.heap.size, 3, none⟩ (.slice A3 la.length c3)) := (Chg.of_below hb1' _).setCell _ fun _ => rfl
        have ho2 : OwnO lo (w1.setCell ⟨w.heap.size, 3, none⟩ (.slice A3 la.length c3)) _ _ := hown.chg hcg (fun k hk e => by have := (hown.lt k hk).2; omega) (fun k _ hk e => by obtain ⟨_, _, hk⟩ := hk; have := (Array.getElem?_eq_some_iff.1 hk).1; omega)
        have hoa2 : OwnA lo (w1.setCell ⟨w.heap.size, 3, none⟩ (.slice A3 la.length c3)) (.slice A3 la.length c3) la := (ho1.mono (by simp; omega)).chg (X := fun k => k = w.heap.size) ((Chg.refl _ w1).setCell _ fun _ => rfl) (fun k hk e => by have := (ho1.1.lt k hk).1; simp at this; omega)
        have hk0 : (w1.setCell ⟨w.heap.size, 3, none⟩ (.slice A3 la.length c3)).cell? ⟨w.heap.size, 0, none⟩ = some (.int .i64 kind) := (World.cell?_setCell_other _ _ _ _ (by simp)).trans ((hq1 w.heap.size 0 (by simp)).trans (cell_of_row _ w.heap.size 0 _ _ _ (heap_alloc_new w _)))
        have hk1 : (w1.setCell ⟨w.heap.size, 3, none⟩ (.slice A3 la.length c3)).cell? ⟨w.heap.size, 1, none⟩ = some (.int .i64 n) := (World.cell?_setCell_other _ _ _ _ (by simp)).trans ((hq1 w.heap.size 1 (by simp)).trans (cell_of_row _ w.heap.size 1 _ _ _ (heap_alloc_new w _)))
        have hk2 : (w1.setCell ⟨w.heap.size, 3, none⟩ (.slice A3 la.length c3)).cell? ⟨w.heap.size, 2, none⟩ = some (.string text) := (World.cell?_setCell_other _ _ _ _ (by simp)).trans ((hq1 w.heap.size 2 (by simp)).trans (cell_of_row _ w.heap.size 2 _ _ _ (heap_alloc_new w _)))
        have hk3 : (w1.setCell ⟨w.heap.size, 3, none⟩ (.slice A3 la.length c3)).cell? ⟨w.heap.size, 3, none⟩ = some (.slice A3 la.length c3) := World.cell?_setCell_same w1 _ _ ((hq1 w.heap.size 3 (by simp)).trans (cell_of_row _ w.heap.size 3 _ _ _ (heap_alloc_new w _)))
        have hrb2 : (w1.setCell ⟨w.heap.size, 3, none⟩ (.slice A3 la.length c3)).heap[rb]? = some (.cells cs T (0, 0)) := (hcg.block rb hrbw (by omega)).trans hrb
        have hz2 := hcg.size
        have hz3 : w.heap.size < (w1.setCell ⟨w.heap.size, 3, none⟩ (.slice A3 la.length c3)).heap.size := by simp [World.setCell]; omega
        generalize w1.setCell ⟨w.heap.size, 3, none⟩ (.slice A3 la.length c3) = W2 at *
        have hr2' : W2.cell? ⟨rb, 0, none⟩ = some (.slice (some ⟨g0, 0, none⟩) (l0.length + 1) c) := by rw [cell_of_row W2 rb 0 cs T (0, 0) hrb2]; exact hcs
        have hf2 : W2.frozen? ⟨rb, 0, none⟩ = false := by simp [World.frozen?, hrb2]
        have q1 : Hid (OwnO lo W2.drew (.slice (some ⟨g0, 0, none⟩) (l0.length + 1) c) (l0 ++ [x])) := OwnO.below ho2 (Below.refl _ _).drew
        have q2 : Hid (OwnA lo W2.drew (.slice A3 la.length c3) la) := OwnA.below hoa2 (Below.refl _ _).drew
        have q3 : lo ≤ W2.heap.size := by omega
        have q5 : Hid (putL (l0 ++ [x]) ⟨kind, n, text, la⟩ = (l0 ++ [x]) ++ [⟨kind, n, text, la⟩]) := by unfold Hid; simp [putL, opLike, hno]
        have q4 : Hid (∀ k, (Value.slice (some ⟨g0, 0, none⟩) (l0.length + 1) c).ownBlock = some k → k ≠ rb) := own_ne_blockO ho2 hrb2 hT1
        have hr2a : ∀ o, (W2.alloc o).cell? ⟨rb, 0, none⟩ = some (.slice (some ⟨g0, 0, none⟩) (l0.length + 1) c) := fun o => (World.cell?_of_block (Below.heap_alloc W2 o rb (by omega))).trans hr2'
        go_region_law ((
          refine step_append_op1 (by rfl) (.tmp 76) (.tmp 78) (by rfl) lo (.slice (some ⟨g0, 0, none⟩) (l0.length + 1) c) (l0 ++ [x]) (l0.length + 1) e1 ⟨kind, n, text, la⟩ (.slice A3 la.length c3) W2.heap.size (by simp [Act.eval]) (by simp [Act.eval]) (by simp) q1.out q2.out hft (by rfl) hlen (by simpa using q3) ?_
          intro g cap w3 hown3 hgrow hat
          have hrb3 := (hgrow.block rb (by simp; omega) (fun e => q4.out rb e.symm rfl)).trans hrb2
          have hr3 : w3.cell? ⟨rb, 0, none⟩ = some (.slice (some ⟨g0, 0, none⟩) (l0.length + 1) c) := (hgrow.cell_far ⟨rb, 0, none⟩ (by simp; omega) (fun e => q4.out rb e.symm rfl)).trans hr2'
          have hf3 : w3.frozen? ⟨rb, 0, none⟩ = false := (hgrow.frozen_far ⟨rb, 0, none⟩ (by simp; omega) (fun e => q4.out rb e.symm rfl)).trans hf2))
        all_goals
          go_wp2
          refine bodyPost_end (results_none rfl _ _ _) rfl ⟨rfl, ?_⟩
          exact put_end hrb hcs hT1 hT2 hcg hgrow hrb3 hown3 hat hz2 q5.out
    · have hno : (x.kind == kind && attrsEq x.attrs la) = false := by simp [hkd]
      have hke : (x.kind == kind) = false := by simp [hkd]
      go_enter Tryd.func94, Tryd.ntmps94
      go_wp2_with fail
      go_quiet (fail)
      go_wp2_with fail
      have c1 := clone_any (.slice A2 la.length c2) la S
      have hb0 : Below w.heap.size w ((w.alloc (.cells #[.int .i64 kind, .int .i64 n, .string text, .slice A2 la.length c2] 30)).drewN nq) := below_drewN ((Below.refl _ _).alloc (Nat.le_refl _) _) _
      refine (c1 _ (Rd.below ⟨A2, c2, rfl, hA2, hr2⟩ hb0)).mono ?_
      rintro e w1 ⟨v3, rfl, hb1, ho1⟩
      have hq1 := (bcell hb1).1
      have hq2 := (bcell hb1).2
      have hb1' : Below w.heap.size w w1 := hb0.trans (hb1.mono hb0.size)
      have hz1 : w.heap.size < w1.heap.size := by have := hb1.size; simp at this; omega
      obtain ⟨A3, c3, rfl, hA3, hr3⟩ := ho1.rd
      have hc1 := (hb1'.cell (p := ⟨rb, 0, none⟩) hrbw).trans hc0
      have hfz1 := (hb1'.frozen (p := ⟨rb, 0, none⟩) hrbw).trans hfz
      go_wp2_with fail
      have hcg : Chg (fun k => k = w.heap.size) w (w1.setCell ⟨w.heap.size, 3, none⟩ (.slice A3 la.length c3)) := (Chg.of_below hb1' _).setCell _ fun _ => rfl
      have ho2 : OwnO lo (w1.setCell ⟨w.heap.size, 3, none⟩ (.slice A3 la.length c3)) _ _ := hown.chg hcg (fun k hk e => by have := (hown.lt k hk).2; omega) (fun k _ hk e => by obtain ⟨_, _, hk⟩ := hk; have := (Array.getElem?_eq_some_iff.1 hk).1; omega)
      have hoa2 : OwnA lo (w1.setCell ⟨w.heap.size, 3, none⟩ (.slice A3 la.length c3)) (.slice A3 la.length c3) la := (ho1.mono (by simp; omega)).chg (X := fun k => k = w.heap.size) ((Chg.refl _ w1).setCell _ fun _ => rfl) (fun k hk e => by have := (ho1.1.lt k hk).1; simp at this; omega)
      have hk0 : (w1.setCell ⟨w.heap.size, 3, none⟩ (.slice A3 la.length c3)).cell? ⟨w.heap.size, 0, none⟩ = some (.int .i64 kind) := (World.cell?_setCell_other _ _ _ _ (by simp)).trans ((hq1 w.heap.size 0 (by simp)).trans (cell_of_row _ w.heap.size 0 _ _ _ (heap_alloc_new w _)))
      have hk1 : (w1.setCell ⟨w.heap.size, 3, none⟩ (.slice A3 la.length c3)).cell? ⟨w.heap.size, 1, none⟩ = some (.int .i64 n) := (World.cell?_setCell_other _ _ _ _ (by simp)).trans ((hq1 w.heap.size 1 (by simp)).trans (cell_of_row _ w.heap.size 1 _ _ _ (heap_alloc_new w _)))
      have hk2 : (w1.setCell ⟨w.heap.size, 3, none⟩ (.slice A3 la.length c3)).cell? ⟨w.heap.size, 2, none⟩ = some (.string text) := (World.cell?_setCell_other _ _ _ _ (by simp)).trans ((hq1 w.heap.size 2 (by simp)).trans (cell_of_row _ w.heap.size 2 _ _ _ (heap_alloc_new w _)))
      have hk3 : (w1.setCell ⟨w.heap.size, 3, none⟩ (.slice A3 la.length c3)).cell? ⟨w.heap.size, 3, none⟩ = some (.slice A3 la.length c3) := World.cell?_setCell_same w1 _ _ ((hq1 w.heap.size 3 (by simp)).trans (cell_of_row _ w.heap.size 3 _ _ _ (heap_alloc_new w _)))
      have hrb2 : (w1.setCell ⟨w.heap.size, 3, none⟩ (.slice A3 la.length c3)).heap[rb]? = some (.cells cs T (0, 0)) := (hcg.block rb hrbw (by omega)).trans hrb
      have hz2 := hcg.size
      have hz3 : w.heap.size < (w1.setCell ⟨w.heap.size, 3, none⟩ (.slice A3 la.length c3)).heap.size := by simp [World.setCell]; omega
      generalize w1.setCell ⟨w.heap.size, 3, none⟩ (.slice A3 la.length c3) = W2 at *
      have hr2' : W2.cell? ⟨rb, 0, none⟩ = some (.slice (some ⟨g0, 0, none⟩) (l0.length + 1) c) := by rw [cell_of_row W2 rb 0 cs T (0, 0) hrb2]; exact hcs
      have hf2 : W2.frozen? ⟨rb, 0, none⟩ = false := by simp [World.frozen?, hrb2]
      have q1 : Hid (OwnO lo W2.drew (.slice (some ⟨g0, 0, none⟩) (l0.length + 1) c) (l0 ++ [x])) := OwnO.below ho2 (Below.refl _ _).drew
      have q2 : Hid (OwnA lo W2.drew (.slice A3 la.length c3) la) := OwnA.below hoa2 (Below.refl _ _).drew
      have q3 : lo ≤ W2.heap.size := by omega
      have q5 : Hid (putL (l0 ++ [x]) ⟨kind, n, text, la⟩ = (l0 ++ [x]) ++ [⟨kind, n, text, la⟩]) := by unfold Hid; simp [putL, opLike, hno]
      have q4 : Hid (∀ k, (Value.slice (some ⟨g0, 0, none⟩) (l0.length + 1) c).ownBlock = some k → k ≠ rb) := own_ne_blockO ho2 hrb2 hT1
      have hr2a : ∀ o, (W2.alloc o).cell? ⟨rb, 0, none⟩ = some (.slice (some ⟨g0, 0, none⟩) (l0.length + 1) c) := fun o => (World.cell?_of_block (Below.heap_alloc W2 o rb (by omega))).trans hr2'
      go_region_law ((
        refine step_append_op1 (by rfl) (.tmp 76) (.tmp 78) (by rfl) lo (.slice (some ⟨g0, 0, none⟩) (l0.length + 1) c) (l0 ++ [x]) (l0.length + 1) e1 ⟨kind, n, text, la⟩ (.slice A3 la.length c3) W2.heap.size (by simp [Act.eval]) (by simp [Act.eval]) (by simp) q1.out q2.out hft (by rfl) hlen (by simpa using q3) ?_
        intro g cap w3 hown3 hgrow hat
        have hrb3 := (hgrow.block rb (by simp; omega) (fun e => q4.out rb e.symm rfl)).trans hrb2
        have hr3 : w3.cell? ⟨rb, 0, none⟩ = some (.slice (some ⟨g0, 0, none⟩) (l0.length + 1) c) := (hgrow.cell_far ⟨rb, 0, none⟩ (by simp; omega) (fun e => q4.out rb e.symm rfl)).trans hr2'
        have hf3 : w3.frozen? ⟨rb, 0, none⟩ = false := (hgrow.frozen_far ⟨rb, 0, none⟩ (by simp; omega) (fun e => q4.out rb e.symm rfl)).trans hf2))
      all_goals
        go_wp2
        refine bodyPost_end (results_none rfl _ _ _) rfl ⟨rfl, ?_⟩
        exact put_end hrb hcs hT1 hT2 hcg hgrow hrb3 hown3 hat hz2 q5.out
end Go.Proofs.YtaemajcpgmaapaaDoor

namespace Go.Proofs.YtaemajcpgmaapaaDoor
open Go.RowKit

theorem right_ch (f : Int) (vo : Value) (l : List Op) (S : Nat → Prop) (w : World) (h : Rd KO S w vo l) (hT : Tabs w) :
    Calls Tryd.prog 25 #[.agg #[.int .i64 f, vo]] w fun e w' => e = .returned (.int .i64 (toR ⟨f, l⟩).2) ∧ Below w.heap.size w w' := by
  have c1 := to_any f vo l S
  obtain ⟨r1, r2, HR⟩ : ∃ r1 r2, Hid (toR ⟨f, l⟩ = (r1, r2)) := ⟨_, _, rfl⟩
  rw [HR.out] at c1
  obtain ⟨A, c, rfl, hA, hr⟩ := h
  have hb0 : Below w.heap.size w (w.alloc (.cells #[.int .i64 f, .slice A l.length c] 24)) := (Below.refl _ _).alloc (Nat.le_refl _) _
  go_enter Tryd.func25, Tryd.ntmps25
  go_wp2_with fail
  refine (c1 _ (Rd.below ⟨A, c, rfl, hA, hr⟩ hb0) (hT.below hb0)).mono ?_
  rintro e w1 ⟨rfl, hb1⟩
  have hb2 := hb0.trans (hb1.mono hb0.size)
  unfold R2
  go_wp2_with fail
  go_ret
  rw [HR.out]
  exact ⟨rfl, hb2⟩

theorem OwnO.fits {lo : Nat} {w : World} {v : Value} {l : List Op} (h : OwnO lo w v l) : ∀ x ∈ l, Fits x.text := by
  obtain ⟨ps, rfl, _, h2, _⟩ := h
  intro x hx
  obtain ⟨p, hp, rfl⟩ := List.mem_map.1 hx
  exact (h2 p hp).2

/-- What waits, put down. -/
def flushL (s : List Op × Int) : List Op × Int := if 0 < s.2 then (putL s.1 ⟨3, s.2, ⟨#[]⟩, []⟩, 0) else s

set_option maxRecDepth 100000 in
theorem flush_ch (mb : Nat) (T : Nat) (v : Value) (l : List Op) (gone : Int) (lo : Nat) (w : World)
    (hmb : w.heap[mb]? = some (.cells #[v, .int .i64 gone] T (0, 0))) (hlo : lo ≤ mb) (hT1 : T ≠ 30) (hT2 : T ≠ 102) (hown : OwnO lo w v l)
    (hlen : (l.length + 1) * 56 ≤ 140737488355328) :
    Calls Tryd.prog 93 #[.pointer (some ⟨mb, 0, none⟩)] w fun e w' => e = .returned (.tuple #[]) ∧
      ∃ v', w'.heap[mb]? = some (.cells #[v', .int .i64 (flushL (l, gone)).2] T (0, 0)) ∧ OwnO lo w' v' (flushL (l, gone)).1 ∧ Chg (fun k => k = mb ∨ v.ownBlock = some k) w w' ∧ (v'.ownBlock = v.ownBlock ∨ ∃ k, v'.ownBlock = some k ∧ w.heap.size ≤ k) := by
  have hsz := hown.fits
  have c0 : w.cell? ⟨mb, 0, none⟩ = some v := by rw [cell_of_row w mb 0 _ T (0, 0) hmb]; rfl
  have c1 : w.cell? ⟨mb, 1, none⟩ = some (.int .i64 gone) := by rw [cell_of_row w mb 1 _ T (0, 0) hmb]; rfl
  by_cases hg : 0 < gone
  · have hd : decide (0 < gone) = true := by simp [hg]
    have HF : Hid (flushL (l, gone) = (putL l ⟨3, gone, ⟨#[]⟩, []⟩, 0)) := by unfold Hid flushL; rw [if_pos hg]
    have hmbw : mb < w.heap.size := (Array.getElem?_eq_some_iff.1 hmb).1
    have hput := fun W (hb : Below w.heap.size w W) => rowPut mb #[v, .int .i64 gone] T v l lo 3 gone ⟨#[]⟩ (.slice none 0 0) [] (fun _ => True) W ((hb.block mb hmbw).trans hmb) rfl hlo hT1 hT2 (hown.below hb) (Rd.nil _ _ _ _ _ (by simp)) (by show (0 : Nat) ≤ _; omega) (fun x hx => by show x.text.size + 0 ≤ _; have := hsz x hx; unfold Fits at this; omega) hlen
    go_enter Tryd.func93, Tryd.ntmps93
    go_wp2_with fail
    go_region_held3 (fun w' => w'.cell? ⟨mb, 1, none⟩ = some (.int .i64 gone)) (first | exact c1 | exact cell_of_row _ mb 1 _ T (0, 0) hmb1 | go_keep)
      (first | (go_at_call 94; refine (hput _ (Below.refl _ _).drew).mono ?_; rintro e w1 ⟨rfl, v', hmb1, ho1, hc1, hv1⟩))
    have k1 : w1.cell? ⟨mb, 1, none⟩ = some (.int .i64 gone) := cell_of_row _ mb 1 _ T (0, 0) hmb1
    have k2 : w1.frozen? ⟨mb, 1, none⟩ = false := by simp [World.frozen?, hmb1]
    go_wp2_with fail
    refine bodyPost_end (results_none rfl _ _ _) rfl ⟨rfl, ?_⟩
    rw [HF.out]
    have hs : Chg (fun k => k = mb) w1 (w1.setCell ⟨mb, 1, none⟩ (.int .i64 0)) := (Chg.refl _ _).setCell _ fun _ => rfl
    refine ⟨v', heap_setCell_same w1 mb 1 _ T _ hmb1, ho1.chg hs (fun k hk e => own_ne_blockO ho1 hmb1 hT1 k hk e) (fun k _ hk e => ?_), Chg.trans (X := fun k => k = mb ∨ v.ownBlock = some k) (Chg.trans (X := fun k => k = mb ∨ v.ownBlock = some k) (Chg.refl _ w).drew hc1 fun _ _ h => h) hs fun k _ e => .inl e, hv1⟩
    obtain ⟨cs', fr, hk⟩ := hk
    subst e
    rw [hmb1] at hk
    injection hk with hk
    injection hk with _ ht
    exact hT2 ht
  · have hd : decide (0 < gone) = false := by simp [hg]
    have HF : Hid (flushL (l, gone) = (l, gone)) := by unfold Hid flushL; rw [if_neg hg]
    go_enter Tryd.func93, Tryd.ntmps93
    go_wp2_with fail
    refine bodyPost_end (results_none rfl _ _ _) rfl ⟨rfl, v, ?_⟩
    rw [HF.out]
    exact ⟨hmb, hown, Chg.refl _ _, .inl rfl⟩

theorem clip_any (A : Option Addr) (n c : Nat) (hA : A = none → c = 0) (hn : n ≤ c) (hm : c ≤ 9223372036854775807) (w : World) :
    Calls Tryd.prog 95 #[.slice A n c] w fun e w' => e = .returned (.slice A n n) ∧ w' = w := by
  have h1 : (0 : Int) ≤ (n : Int) := by omega
  have h2 : (n : Int) ≤ (c : Int) := by omega
  cases A with
  | none =>
    obtain rfl := hA rfl
    obtain rfl : n = 0 := by omega
    go_enter Tryd.func95, Tryd.ntmps95
    go_wp2_with fail
    go_ret
    exact ⟨rfl, rfl⟩
  | some a =>
    go_enter Tryd.func95, Tryd.ntmps95
    go_wp2_with fail
    go_ret
    exact ⟨rfl, rfl⟩
end Go.Proofs.YtaemajcpgmaapaaDoor

namespace Go.Proofs.YtaemajcpgmaapaaDoor
open Go.RowKit

theorem cnt_size {s : ByteArray} (h : cntErr s = 0) : s.size ≤ 80000 := by
  have hd : ∀ n b0 b1 b2 b3, (Lib.decodeN n b0 b1 b2 b3).2 ≤ 4 := by
    intro n b0 b1 b2 b3
    unfold Lib.decodeN
    repeat' split
    all_goals simp
  have hc : ∀ fuel pos, s.size ≤ pos + fuel → s.size ≤ pos + 4 * Lib.runeCountFrom s fuel pos := by
    intro fuel
    induction fuel with
    | zero => intro pos hp; omega
    | succ f ih =>
      intro pos hp
      unfold Lib.runeCountFrom
      split
      · rename_i hlt
        have h1 := Lib.decode_width_pos s pos hlt
        have h2 : (Utf8.decode s pos).2 ≤ 4 := by rw [Lib.decode_at]; exact hd _ _ _ _ _
        have := ih (pos + (Utf8.decode s pos).2) (by omega)
        omega
      · omega
  unfold cntErr at h
  split at h
  · rename_i h'
    have := hc s.size 0 (by omega)
    have h2 : Lib.runeCountFrom s s.size 0 ≤ 20000 := h'.2
    omega
  · cases h

/-- Operations in memory that the call itself has made, in a block of operations, at whatever place. -/
def RowO (lo : Nat) (w : World) (v : Value) (l : List Op) : Prop :=
  ∃ ps : List (Op × Value), ps.map (·.1) = l ∧
    ((v = .slice none 0 0 ∧ l = []) ∨ ∃ g off c cur, v = .slice (some ⟨g, off, none⟩) l.length c ∧ l.length ≤ c ∧ c ≤ 9223372036854775807 ∧ lo ≤ g ∧ w.heap[g]? = some (.cells cur 30 (0, 0)) ∧ ∀ j u, (ocells ps)[j]? = some u → cur[off + j]? = some u) ∧
    (∀ p ∈ ps, OwnA lo w p.2 p.1.attrs ∧ Fits p.1.text) ∧ l.length * 56 ≤ 140737488355328

theorem RowO.nil (lo : Nat) (w : World) : RowO lo w (.slice none 0 0) [] := ⟨[], rfl, .inl ⟨rfl, rfl⟩, by simp, by simp⟩
theorem OwnO.row {lo : Nat} {w : World} {v : Value} {l : List Op} (h : OwnO lo w v l) : RowO lo w v l := by
  obtain ⟨ps, hps, h1, h2, h3⟩ := h
  refine ⟨ps, hps, ?_, h2, h3⟩
  rcases h1.2 with ⟨rfl, h0⟩ | ⟨g, cap, cur, rfl, hg, hh, hn, hm, hs, ht⟩
  · exact .inl ⟨rfl, List.eq_nil_of_length_eq_zero h0⟩
  · refine .inr ⟨g, 0, cap, cur, rfl, hn, hm, hg, hh, fun j u hu => ?_⟩
    have hj : j < (ocells ps).length := (List.getElem?_eq_some_iff.1 hu).1
    rw [← ht] at hu
    rw [List.getElem?_take] at hu
    split at hu
    · rw [Nat.zero_add, ← Array.getElem?_toList]; exact hu
    · cases hu
/-- Cut at its end, its capacity whatever may be. -/
theorem RowO.cut {lo : Nat} {w : World} {A : Option Addr} {n c : Nat} {l l' : List Op} (h : RowO lo w (.slice A n c) (l ++ l')) (c' : Nat) (hc : l.length ≤ c') (hc2 : c' ≤ c) : RowO lo w (.slice A l.length c') l := by
  obtain ⟨ps, hps, h1, h2, h3⟩ := h
  refine ⟨ps.take l.length, by rw [List.map_take, hps]; simp, ?_, fun p hp => h2 p (List.mem_of_mem_take hp), by simp at h3; omega⟩
  rcases h1 with ⟨h1, h0⟩ | ⟨g, off, c0, cur, h1, hn, hm, hg, hh, hx⟩
  · have hl : l = [] := (List.append_eq_nil_iff.1 h0).1
    injection h1 with e1 e2 e3
    subst e1 hl e3
    obtain rfl : c' = 0 := by omega
    exact .inl ⟨rfl, rfl⟩
  · injection h1 with e1 e2 e3
    subst e1 e3
    refine .inr ⟨g, off, c', cur, rfl, hc, by omega, hg, hh, fun j u hu => hx j u ?_⟩
    have : ocells ps = ocells (ps.take l.length) ++ ocells (ps.drop l.length) := by rw [← ocells_append, List.take_append_drop]
    rw [this]
    obtain ⟨hj, _⟩ := List.getElem?_eq_some_iff.1 hu
    rw [List.getElem?_append_left hj]
    exact hu
theorem RowO.clip {lo : Nat} {w : World} {A : Option Addr} {n c : Nat} {l : List Op} (h : RowO lo w (.slice A n c) l) : n = l.length ∧ (A = none → c = 0) ∧ n ≤ c ∧ c ≤ 9223372036854775807 ∧ RowO lo w (.slice A n n) l := by
  have h0 := h
  obtain ⟨ps, hps, h1, h2, h3⟩ := h0
  have hn : n = l.length ∧ (A = none → c = 0) ∧ n ≤ c ∧ c ≤ 9223372036854775807 := by
    rcases h1 with ⟨h1, h0⟩ | ⟨g, off, c0, cur, h1, hn, hm, hg, hh, hx⟩
    · injection h1 with e1 e2 e3
      subst e1 e2 e3 h0
      simp
    · injection h1 with e1 e2 e3
      subst e1 e2 e3
      exact ⟨rfl, by simp, hn, hm⟩
  obtain ⟨rfl, hA, hle, hm⟩ := hn
  refine ⟨rfl, hA, hle, hm, ?_⟩
  have := RowO.cut (l' := []) (by simpa using h) l.length (Nat.le_refl _) hle
  exact this
theorem RowO.lt {lo : Nat} {w : World} {v : Value} {l : List Op} (h : RowO lo w v l) : ∀ k, v.ownBlock = some k → lo ≤ k ∧ k < w.heap.size ∧ ∃ cur, w.heap[k]? = some (.cells cur 30 (0, 0)) := by
  obtain ⟨ps, _, h1, _⟩ := h
  intro k hk
  rcases h1 with ⟨rfl, _⟩ | ⟨g, off, c0, cur, rfl, hn, hm, hg, hh, hx⟩
  · simp [Value.ownBlock] at hk
  · simp [Value.ownBlock] at hk
    subst hk
    exact ⟨hg, (Array.getElem?_eq_some_iff.1 hh).1, cur, hh⟩
theorem RowO.chg {lo : Nat} {w w' : World} {X : Nat → Prop} {v : Value} {l : List Op} (h : RowO lo w v l) (hc : Chg X w w') (hs : ∀ k, v.ownBlock = some k → ¬ X k) (ha : ∀ k, lo ≤ k → (∃ cs fr, w.heap[k]? = some (.cells cs 102 fr)) → ¬ X k) : RowO lo w' v l := by
  obtain ⟨ps, e, h1, h2, h3⟩ := h
  refine ⟨ps, e, ?_, fun p hp => ⟨(h2 p hp).1.chg hc fun k hk => ?_, (h2 p hp).2⟩, h3⟩
  · rcases h1 with h1 | ⟨g, off, c0, cur, rfl, hn, hm, hg, hh, hx⟩
    · exact .inl h1
    · exact .inr ⟨g, off, c0, cur, rfl, hn, hm, hg, (hc.block g (Array.getElem?_eq_some_iff.1 hh).1 (hs g rfl)).trans hh, hx⟩
  refine ha k ((h2 p hp).1.1.lt k hk).1 ?_
  rcases (h2 p hp).1.1.2 with ⟨e1, _⟩ | ⟨g, cap, cur, e1, _, hh, _⟩
  · rw [e1] at hk; simp [Value.ownBlock] at hk
  · rw [e1] at hk; simp [Value.ownBlock] at hk; subst hk; exact ⟨_, _, hh⟩
theorem RowO.below {lo : Nat} {w w' : World} {v : Value} {l : List Op} (h : RowO lo w v l) (hb : Below w.heap.size w w') : RowO lo w' v l :=
  h.chg (X := fun _ => False) (Chg.of_below hb _) (fun _ _ h => h) (fun _ _ _ h => h)
theorem RowO.mono {lo lo' : Nat} {w : World} {v : Value} {l : List Op} (h : RowO lo w v l) (hl : lo' ≤ lo) : RowO lo' w v l := by
  obtain ⟨ps, e, h1, h2, h3⟩ := h
  refine ⟨ps, e, ?_, fun p hp => ⟨(h2 p hp).1.mono hl, (h2 p hp).2⟩, h3⟩
  rcases h1 with h1 | ⟨g, off, c0, cur, rfl, hn, hm, hg, hh, hx⟩
  · exact .inl h1
  · exact .inr ⟨g, off, c0, cur, rfl, hn, hm, by omega, hh, hx⟩
theorem RowO.rd {lo : Nat} {w : World} {v : Value} {l : List Op} (h : RowO lo w v l) : Rd KO (fun k => lo ≤ k) w v l := by
  obtain ⟨ps, rfl, h2, hp, hl⟩ := h
  rcases h2 with ⟨rfl, h0⟩ | ⟨g, off, c, cur, rfl, hn, hm, hg, hh, hx⟩
  · rw [h0]
    exact Rd.nil _ _ _ _ _ (by simp)
  · refine ⟨_, c, rfl, ⟨by simp, hn⟩, hl, fun k hk => ?_⟩
    have hk' : k < ps.length := by simpa using hk
    have ha := ocells_at ps k hk'
    have hpk := hp ps[k] (List.getElem_mem hk')
    refine ⟨g, off, _, rfl, hg, (Array.getElem?_eq_some_iff.1 hh).1, ⟨ps[k].2, rfl, by simpa using hpk.1.rd, by simpa using hpk.2⟩, fun j x hj => ?_⟩
    show w.cell? ⟨g, off + k * 4 + j, none⟩ = some x
    rw [cell_of_row w g _ cur _ (0, 0) hh, Nat.add_assoc]
    refine hx _ _ ?_
    match j, hj with
    | 0, hj => simp at hj; rw [← hj]; exact ha.1
    | 1, hj => simp at hj; rw [← hj]; exact ha.2.1
    | 2, hj => simp at hj; rw [← hj]; exact ha.2.2.1
    | 3, hj => simp at hj; rw [← hj]; exact ha.2.2.2
    | j + 4, hj => simp at hj
end Go.Proofs.YtaemajcpgmaapaaDoor

namespace Go.Proofs.YtaemajcpgmaapaaDoor
open Go.RowKit

def nStep (s : List Op × Int) (o : Op) : List Op × Int :=
  if o.kind = 1 then (putL (flushL s).1 o, (flushL s).2) else if o.kind = 2 then (putL s.1 o, s.2) else if o.kind = 3 then (s.1, wrap64 (s.2 + o.n)) else s
/-- Without a keep at the end that does nothing. -/
def trimL (l : List Op) : List Op := match l.getLast? with
  | none => l
  | some x => if x.kind = 1 ∧ x.attrs = [] then l.dropLast else l
def normS (ops : List Op) : List Op × Int := flushL (ops.foldl nStep ([], 0))
def normL (ops : List Op) : List Op := trimL (normS ops).1
/-- change.Normal: the changeset, its error. -/
def nmR (c : Change) : Change × Int := if (toR c).2 = 0 then (⟨c.from_, normL c.ops⟩, 0) else (⟨0, []⟩, (toR c).2)

def NB (k : Nat) (s : List Op × Int) : Prop := s.1.length ≤ 2 * k ∧ ∀ x ∈ s.1, x.text.size ≤ k * 80000
theorem putL_bd {l : List Op} {o : Op} {M : Nat} (h : ∀ x ∈ l, x.text.size ≤ M) : (putL l o).length ≤ l.length + 1 ∧ ∀ x ∈ putL l o, x.text.size ≤ M + o.text.size := by
  unfold putL
  rcases List.eq_nil_or_concat l with rfl | ⟨l0, x, rfl⟩
  · simp
  · rw [List.concat_eq_append] at *
    have hl : (l0 ++ [x]).getLast? = some x := by simp
    rw [hl]
    dsimp only
    have hx := h x (by simp)
    split
    · rw [List.dropLast_concat]
      refine ⟨by simp, fun y hy => ?_⟩
      rcases List.mem_append.1 hy with hy | hy
      · have := h y (by simp [hy]); omega
      · simp at hy; subst hy; simp [ByteArray.size_append]; omega
    · refine ⟨by simp, fun y hy => ?_⟩
      rcases List.mem_append.1 hy with hy | hy
      · have := h y hy; omega
      · simp at hy; subst hy; omega
theorem flushL_bd {s : List Op × Int} {M : Nat} (h : ∀ x ∈ s.1, x.text.size ≤ M) : (flushL s).1.length ≤ s.1.length + 1 ∧ ∀ x ∈ (flushL s).1, x.text.size ≤ M := by
  unfold flushL
  split
  · have := putL_bd (o := ⟨3, s.2, ⟨#[]⟩, []⟩) h
    exact ⟨this.1, fun x hx => by have := this.2 x hx; have e : (⟨#[]⟩ : ByteArray).size = 0 := rfl; simp only [e] at this; omega⟩
  · exact ⟨by omega, h⟩
theorem NB.step {k : Nat} {s : List Op × Int} {o : Op} (h : NB k s) (ho : o.text.size ≤ 80000) : NB (k + 1) (nStep s o) := by
  unfold nStep
  have hf := flushL_bd h.2
  split
  · have hp := putL_bd (o := o) hf.2
    have := h.1
    exact ⟨by show (putL _ _).length ≤ _; omega, fun x hx => by have := hp.2 x hx; omega⟩
  · split
    · have hp := putL_bd (o := o) h.2
      have := h.1
      exact ⟨by show (putL _ _).length ≤ _; omega, fun x hx => by have := hp.2 x hx; omega⟩
    · split
      · exact ⟨Nat.le_trans h.1 (by omega), fun x hx => Nat.le_trans (h.2 x hx) (Nat.mul_le_mul_right _ (by omega))⟩
      · exact ⟨Nat.le_trans h.1 (by omega), fun x hx => Nat.le_trans (h.2 x hx) (Nat.mul_le_mul_right _ (by omega))⟩

/-- What an operation that may be is. -/
def opOk (o : Op) : Prop := shapedB o = true ∧ (o.kind = 2 → cntErr o.text = 0 ∧ rtErr o.attrs = 0) ∧ (o.kind ≠ 2 → chErr o.attrs = 0)
theorem oneR_ok {o : Op} {left : Int} (h : (oneR o left).2.2 = 0) : opOk o := by
  unfold oneR at h
  split at h
  · cases h
  · rename_i hs
    refine ⟨by simpa using hs, fun h2 => ?_, fun h2 => ?_⟩
    · rw [if_pos h2] at h
      split at h
      · rename_i hc; exact ⟨hc, h⟩
      · rename_i hc; exact absurd h hc
    · rw [if_neg h2] at h
      split at h
      · assumption
      · exact h
theorem toGo_ok : ∀ (l : List Op) (left n : Int), (toGo l left n).2 = 0 → ∀ o ∈ l, opOk o
  | [], _, _, _ => by simp
  | o :: l, left, n, h => by
    unfold toGo at h
    split at h
    · rename_i h1
      intro x hx
      rcases List.mem_cons.1 hx with rfl | hx
      · exact oneR_ok h1
      · exact toGo_ok l _ _ h x hx
    · rename_i h1; exact absurd h h1
theorem toR_ok {c : Change} (h : (toR c).2 = 0) : 0 ≤ c.from_ ∧ c.from_ ≤ 20000 ∧ c.ops.length ≤ 2000 ∧ ∀ o ∈ c.ops, opOk o := by
  unfold toR at h
  split at h
  · cases h
  · split at h
    · cases h
    · exact ⟨by omega, by omega, by omega, toGo_ok _ _ _ h⟩
theorem toList_emp {s : ByteArray} (h : s.toList.isEmpty = true) : s = ⟨#[]⟩ := toList_inj (by rw [List.isEmpty_iff.1 h, ByteArray.toList_eq])
theorem opOk.size {o : Op} (h : opOk o) : o.text.size ≤ 80000 := by
  by_cases h2 : o.kind = 2
  · exact cnt_size (h.2.1 h2).1
  · have := h.1
    unfold shapedB at this
    rw [if_neg h2] at this
    have he : o.text.toList.isEmpty = true := by
      split at this
      · simp only [Bool.and_eq_true] at this; exact this.2.1
      · simp only [Bool.and_eq_true] at this; exact this.2.2
    rw [toList_emp he]
    show (0 : Nat) ≤ _; omega
end Go.Proofs.YtaemajcpgmaapaaDoor
